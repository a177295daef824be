/- Plain arithmetic of bits, second part: wraps, shifts, turns, fields, as lists of 64 bits. No program in sight. -/
import Derived.Test.YtlbbbafehhdpnaaDoorBitMath
namespace Go.Proofs.YtlbbbafehhdpnaaDoor

/-- 64 bits by a function. -/
def row (f : Nat → Bool) : List Bool := (List.range 64).map f
theorem row_length (f : Nat → Bool) : (row f).length = 64 := by simp [row]
theorem row_get (f : Nat → Bool) (i : Nat) (h : i < 64) : (row f)[i]? = some (f i) := by simp [row, h]
theorem row_get' (f : Nat → Bool) (i : Nat) (h : i < (row f).length) : (row f)[i] = f i := by simp [row]
theorem row_set (f g : Nat → Bool) (k : Nat) (b : Bool) (hk : k < 64) (h1 : g k = b) (h2 : ∀ i, i ≠ k → i < 64 → g i = f i) : (row f).set k b = row g := by
  apply List.ext_getElem?
  intro i
  rw [List.getElem?_set]
  by_cases hi : i < 64
  · rw [row_get f i hi, row_get g i hi, row_length]
    by_cases e : k = i
    · subst e; simp [hi, h1]
    · simp [e, h2 i (fun h => e h.symm) hi]
  · rw [List.getElem?_eq_none (by rw [row_length]; omega), List.getElem?_eq_none (by rw [row_length]; omega)]
    split <;> simp_all [row_length] <;> omega
theorem row_bitsOf (x : Nat) : bitsOf x 64 = row x.testBit := rfl
theorem row_congr (f g : Nat → Bool) (h : ∀ i, i < 64 → f i = g i) : row f = row g := by
  unfold row
  exact List.map_congr_left fun i hi => h i (by simpa using hi)
theorem ofBits_row (f : Nat → Bool) (x : Nat) (hx : x < 18446744073709551616) (h : ∀ i, i < 64 → f i = x.testBit i) : ofBits (row f) = x :=
  ofBits_eq _ _ (by rw [row_length]; exact hx) fun i hi => by rw [row_length] at hi; rw [row_get f i hi, h i hi]
theorem ofBits_row_lt (f : Nat → Bool) : ofBits (row f) < 18446744073709551616 := by
  have := ofBits_lt (row f)
  rw [row_length] at this
  exact this

/-! ### Wrap -/
def wl (x w : Nat) (s : Bool) (k : Nat) : Nat → Bool := fun i => if i < w ∨ k ≤ i then x.testBit i else (s && x.testBit (w - 1))
theorem wl_start (x w : Nat) (s : Bool) : row (wl x w s w) = row x.testBit :=
  row_congr _ _ fun i _ => by unfold wl; rw [if_pos (by omega)]
theorem wl_step (x w : Nat) (s : Bool) (k : Nat) (hw : w ≤ k) (hk : k < 64) : (row (wl x w s k)).set k (s && x.testBit (w - 1)) = row (wl x w s (k + 1)) := by
  refine row_set _ _ _ _ hk ?_ fun i hne _ => ?_
  · unfold wl; rw [if_neg (by omega)]
  · unfold wl
    by_cases h : i < w ∨ k ≤ i
    · rw [if_pos h, if_pos (by omega)]
    · rw [if_neg h, if_neg (by omega)]
theorem wl_last (x w : Nat) (s : Bool) (k : Nat) (hw : 1 ≤ w) (hk : w ≤ k) : wl x w s k (w - 1) = x.testBit (w - 1) := by
  unfold wl; rw [if_pos (by omega)]

/-- What comes out: the low bits, and the sign's. -/
theorem wl_value (x w : Nat) (s : Bool) (hw : w ≤ 64) (hx : x < 18446744073709551616) :
    ofBits (row (wl x w s 64)) = x % 2 ^ w + (if (s && x.testBit (w - 1)) = true then 2 ^ w * (2 ^ (64 - w) - 1) else 0) := by
  have hp : 2 ^ w * 2 ^ (64 - w) = 18446744073709551616 := by
    have e : w + (64 - w) = 64 := by omega
    rw [← Nat.pow_add, e]
  have hlt : x % 2 ^ w < 2 ^ w := Nat.mod_lt _ (Nat.pow_pos (by omega))
  have h64 : (18446744073709551616 : Nat) = 2 ^ 64 := by decide
  refine ofBits_row _ _ ?_ fun i hi => ?_
  · split
    · rw [Nat.mul_sub, hp]
      have : 2 ^ w ≤ 18446744073709551616 := by rw [h64]; exact Nat.pow_le_pow_right (by omega) hw
      omega
    · have : 2 ^ w ≤ 18446744073709551616 := by rw [h64]; exact Nat.pow_le_pow_right (by omega) hw
      omega
  · unfold wl
    by_cases h : i < w
    · rw [if_pos (by omega)]
      split
      · rw [Nat.add_comm, Nat.testBit_two_pow_mul_add _ hlt, if_pos h, Nat.testBit_mod_two_pow]; simp [h]
      · rw [Nat.add_zero, Nat.testBit_mod_two_pow]; simp [h]
    · rw [if_neg (by omega)]
      split
      · rename_i hs
        rw [hs, Nat.add_comm, Nat.testBit_two_pow_mul_add _ hlt, if_neg h, Nat.testBit_two_pow_sub_one]
        symm; simp; omega
      · rename_i hs
        rw [Nat.add_zero, Nat.testBit_mod_two_pow]
        simp [h]
        simpa using hs

theorem testBit_iff (x k : Nat) : x.testBit k = decide (x / 2 ^ k % 2 = 1) := Nat.testBit_eq_decide_div_mod_eq

/-- A kind's width and sign. -/
def widthOf (k : Int) : Nat := if k = 1 ∨ k = 5 then 8 else if k = 2 ∨ k = 6 then 16 else if k = 3 ∨ k = 7 then 32 else if k = 4 ∨ k = 8 then 64 else 0
def signedOf (k : Int) : Bool := decide (1 ≤ k ∧ k ≤ 4)
def wrapOf (k : Int) (x : Nat) : Nat := if widthOf k = 0 then 0 else ofBits (row (wl x (widthOf k) (signedOf k) 64))
theorem width_le (k : Int) : widthOf k ≤ 64 := by
  unfold widthOf
  repeat' split
  all_goals omega
theorem wrapOf_lt (k : Int) (x : Nat) : wrapOf k x < 18446744073709551616 := by
  unfold wrapOf
  split
  · decide
  · exact ofBits_row_lt _

section
variable (x : Nat) (hx : x < 18446744073709551616)
include hx
theorem wrap_1 : IntKind.u64.wrap (IntKind.i8.wrap (x : Int)) = (wrapOf 1 x : Nat) := by
  have e : wrapOf 1 x = ofBits (row (wl x 8 true 64)) := rfl
  rw [e, wl_value x 8 true (by omega) hx, testBit_iff]
  simp only [IntKind.wrap, IntKind.bits, IntKind.signed]
  simp
  split <;> split <;> omega
theorem wrap_2 : IntKind.u64.wrap (IntKind.i16.wrap (x : Int)) = (wrapOf 2 x : Nat) := by
  have e : wrapOf 2 x = ofBits (row (wl x 16 true 64)) := rfl
  rw [e, wl_value x 16 true (by omega) hx, testBit_iff]
  simp only [IntKind.wrap, IntKind.bits, IntKind.signed]
  simp
  split <;> split <;> omega
theorem wrap_3 : IntKind.u64.wrap (IntKind.i32.wrap (x : Int)) = (wrapOf 3 x : Nat) := by
  have e : wrapOf 3 x = ofBits (row (wl x 32 true 64)) := rfl
  rw [e, wl_value x 32 true (by omega) hx, testBit_iff]
  simp only [IntKind.wrap, IntKind.bits, IntKind.signed]
  simp
  split <;> split <;> omega
theorem wrap_4 : wrapOf 4 x = x := by
  have e : wrapOf 4 x = ofBits (row (wl x 64 true 64)) := rfl
  rw [e, wl_value x 64 true (by omega) hx]
  simp
  omega
theorem wrap_8 : wrapOf 8 x = x := by
  have e : wrapOf 8 x = ofBits (row (wl x 64 false 64)) := rfl
  rw [e, wl_value x 64 false (by omega) hx]
  simp
  omega
theorem wrap_5 : wrapOf 5 x = x % 256 := by
  have e : wrapOf 5 x = ofBits (row (wl x 8 false 64)) := rfl
  rw [e, wl_value x 8 false (by omega) hx]
  simp
theorem wrap_6 : wrapOf 6 x = x % 65536 := by
  have e : wrapOf 6 x = ofBits (row (wl x 16 false 64)) := rfl
  rw [e, wl_value x 16 false (by omega) hx]
  simp
theorem wrap_7 : wrapOf 7 x = x % 4294967296 := by
  have e : wrapOf 7 x = ofBits (row (wl x 32 false 64)) := rfl
  rw [e, wl_value x 32 false (by omega) hx]
  simp
end

theorem kinds (k : Int) : widthOf k = 0 ∨ k = 1 ∨ k = 2 ∨ k = 3 ∨ k = 4 ∨ k = 5 ∨ k = 6 ∨ k = 7 ∨ k = 8 := by
  unfold widthOf
  repeat' split
  all_goals omega
theorem width_0 (k : Int) (h : widthOf k = 0) : k ≠ 1 ∧ k ≠ 2 ∧ k ≠ 3 ∧ k ≠ 4 ∧ k ≠ 5 ∧ k ≠ 6 ∧ k ≠ 7 ∧ k ≠ 8 := by
  unfold widthOf at h
  repeat' split at h
  all_goals omega

theorem wl_again (x w : Nat) (s : Bool) (hw : 1 ≤ w) (hw2 : w ≤ 64) : row (wl (ofBits (row (wl x w s 64))) w s 64) = row (wl x w s 64) := by
  have hb : ∀ i, i < 64 → (ofBits (row (wl x w s 64))).testBit i = wl x w s 64 i := fun i hi => by rw [testBit_ofBits, row_get _ i hi]; rfl
  generalize ofBits (row (wl x w s 64)) = y at hb
  refine row_congr _ _ fun i hi => ?_
  unfold wl
  rw [hb i hi, hb (w - 1) (by omega)]
  unfold wl
  by_cases h : i < w
  · rw [if_pos (by omega), if_pos (by omega)]
  · rw [if_neg (by omega), if_pos (by omega), if_neg (by omega)]
theorem wrap_again (k : Int) (x : Nat) : wrapOf k (wrapOf k x) = wrapOf k x := by
  by_cases h : widthOf k = 0
  · simp [wrapOf, h]
  · have e : ∀ y, wrapOf k y = ofBits (row (wl y (widthOf k) (signedOf k) 64)) := fun y => by simp [wrapOf, h]
    rw [e (wrapOf k x), e x, wl_again _ _ _ (by omega) (width_le k)]

end Go.Proofs.YtlbbbafehhdpnaaDoor
