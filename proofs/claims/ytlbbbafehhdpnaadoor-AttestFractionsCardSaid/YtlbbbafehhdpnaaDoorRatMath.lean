/- Rational numbers as a sign and two naturals. No program in sight. -/
import Derived.Test.YtlbbbafehhdpnaaDoorLimbC
namespace Go.Proofs.YtlbbbafehhdpnaaDoor
set_option linter.unusedVariables false
set_option linter.unusedSimpArgs false

def sgn (b : Bool) (n : Nat) : Int := if b then -(n : Int) else n
def ratNeg (q : Rat) : Bool := decide (q.num < 0)
theorem sgn_abs (b : Bool) (n : Nat) : (sgn b n).natAbs = n := by cases b <;> simp [sgn]
theorem sgn_neg (b : Bool) (n : Nat) : decide (sgn b n < 0) = (b && decide (0 < n)) := by
  cases b
  · simp [sgn]
  · simp [sgn]
theorem rat_sgn (q : Rat) : q.num = sgn (ratNeg q) q.num.natAbs := by
  unfold ratNeg sgn
  by_cases h : q.num < 0
  · simp [h]; omega
  · simp [h]; omega
theorem sgn_div (b : Bool) (a g : Nat) (h : g ∣ a) : sgn b a / (g : Int) = sgn b (a / g) := by
  cases b
  · simp [sgn]
  · simp only [sgn, if_true]
    rw [Int.neg_ediv_of_dvd (Int.natCast_dvd_natCast.2 h)]
    rfl
theorem mk_num (b : Bool) (a d : Nat) (hd : 0 < d) : (mkRat (sgn b a) d).num = sgn b (a / Nat.gcd a d) := by
  rw [Rat.num_mkRat, if_neg (by omega), sgn_abs, Nat.gcd_comm, sgn_div _ _ _ (Nat.gcd_dvd_left a d)]
theorem mk_den (b : Bool) (a d : Nat) (hd : 0 < d) : (mkRat (sgn b a) d).den = d / Nat.gcd a d := by
  rw [Rat.den_mkRat, if_neg (by omega), sgn_abs, Nat.gcd_comm]
theorem mk_abs (b : Bool) (a d : Nat) (hd : 0 < d) : (mkRat (sgn b a) d).num.natAbs = a / Nat.gcd a d := by rw [mk_num b a d hd, sgn_abs]
theorem mk_neg (b : Bool) (a d : Nat) (hd : 0 < d) : ratNeg (mkRat (sgn b a) d) = (b && decide (0 < a / Nat.gcd a d)) := by
  unfold ratNeg
  rw [mk_num b a d hd, sgn_neg]
theorem mk_le (b : Bool) (a d : Nat) (hd : 0 < d) : (mkRat (sgn b a) d).num.natAbs ≤ a ∧ (mkRat (sgn b a) d).den ≤ d := by
  rw [mk_abs b a d hd, mk_den b a d hd]
  exact ⟨Nat.div_le_self _ _, Nat.div_le_self _ _⟩
theorem rat_ext {p q : Rat} (h1 : ratNeg p = ratNeg q) (h2 : p.num.natAbs = q.num.natAbs) (h3 : p.den = q.den) : p = q := by
  refine Rat.ext ?_ h3
  rw [rat_sgn p, rat_sgn q, h1, h2]
theorem mk_self (q : Rat) : mkRat (sgn (ratNeg q) q.num.natAbs) q.den = q := by rw [← rat_sgn, Rat.mkRat_self]
theorem rat_gcd (q : Rat) : Nat.gcd q.num.natAbs q.den = 1 := q.reduced

/-- the sum of two naturals with signs. -/
def sumF (an : Bool) (a : Nat) (bn : Bool) (b : Nat) : Bool × Nat := if an = bn then (an, a + b) else if b ≤ a then (an, a - b) else (bn, b - a)
theorem sumF_val (an : Bool) (a : Nat) (bn : Bool) (b : Nat) : sgn (sumF an a bn b).1 (sumF an a bn b).2 = sgn an a + sgn bn b := by
  unfold sumF
  split
  · rename_i he
    subst he
    simp only
    cases an <;> simp [sgn] <;> omega
  · rename_i hne
    split
    · cases an <;> cases bn <;> simp_all [sgn] <;> omega
    · cases an <;> cases bn <;> simp_all [sgn] <;> omega
theorem sumF_le (an : Bool) (a : Nat) (bn : Bool) (b : Nat) : (sumF an a bn b).2 ≤ a + b := by
  unfold sumF
  split
  · exact Nat.le_refl _
  · split <;> simp <;> omega
theorem sgn_mul (b : Bool) (n m : Nat) : sgn b (n * m) = sgn b n * (m : Int) := by
  cases b <;> simp [sgn, Int.neg_mul]
theorem sgn_mul2 (a b : Bool) (n m : Nat) : sgn (a != b) (n * m) = sgn a n * sgn b m := by
  cases a <;> cases b <;> simp [sgn, Int.neg_mul, Int.mul_neg]
theorem add_rat (p q : Rat) : mkRat (sgn (sumF (ratNeg p) (p.num.natAbs * q.den) (ratNeg q) (q.num.natAbs * p.den)).1 (sumF (ratNeg p) (p.num.natAbs * q.den) (ratNeg q) (q.num.natAbs * p.den)).2) (p.den * q.den) = p + q := by
  rw [sumF_val, sgn_mul, sgn_mul, ← rat_sgn, ← rat_sgn, Rat.add_def']
theorem mul_rat (p q : Rat) : mkRat (sgn (ratNeg p != ratNeg q) (p.num.natAbs * q.num.natAbs)) (p.den * q.den) = p * q := by
  rw [sgn_mul2, ← rat_sgn, ← rat_sgn, Rat.mul_def']
theorem neg_rat (q : Rat) : ratNeg (-q) = (!ratNeg q && decide (0 < q.num.natAbs)) ∧ (-q).num.natAbs = q.num.natAbs ∧ (-q).den = q.den := by
  refine ⟨?_, by rw [Rat.neg_num, Int.natAbs_neg], Rat.neg_den q⟩
  unfold ratNeg
  rw [Rat.neg_num]
  by_cases h : q.num < 0
  · rw [decide_eq_true h, decide_eq_false (by omega)]; rfl
  · rw [decide_eq_false h]
    by_cases h0 : q.num = 0
    · rw [h0]; rfl
    · rw [decide_eq_true (by omega), decide_eq_true (by omega)]; rfl
theorem inv_rat (q : Rat) (h : q ≠ 0) : mkRat (sgn (ratNeg q) q.den) q.num.natAbs = q⁻¹ := by
  have hn : q.num ≠ 0 := fun e => h (Rat.num_eq_zero.1 e)
  have ha : q.num.natAbs ≠ 0 := by omega
  have e : mkRat (sgn (ratNeg q) q.den) q.num.natAbs * q = 1 := by
    have h1 : q = mkRat q.num q.den := (Rat.mkRat_self q).symm
    rw [show mkRat (sgn (ratNeg q) q.den) q.num.natAbs * q = mkRat (sgn (ratNeg q) q.den) q.num.natAbs * mkRat q.num q.den by rw [← h1]]
    rw [Rat.mkRat_mul_mkRat]
    have h2 : sgn (ratNeg q) q.den * q.num = ((q.num.natAbs * q.den : Nat) : Int) := by
      unfold sgn ratNeg
      by_cases hlt : q.num < 0
      · simp only [hlt, decide_true, if_true, Int.natCast_mul]
        rw [show ((q.num.natAbs : Nat) : Int) = -q.num by omega, Int.neg_mul, Int.neg_mul, Int.mul_comm]
      · simp only [hlt, decide_false, Bool.false_eq_true, if_false, Int.natCast_mul]
        rw [show ((q.num.natAbs : Nat) : Int) = q.num by omega, Int.mul_comm]
    rw [h2]
    have hm : q.num.natAbs * q.den ≠ 0 := Nat.mul_ne_zero ha q.den_nz
    generalize q.num.natAbs * q.den = M at *
    have h3 : (1 : Rat) = mkRat 1 1 := rfl
    rw [h3, Rat.mkRat_eq_iff hm (by decide)]
    simp
  grind
theorem sub_zero_iff (p q : Rat) : p - q = 0 ↔ p = q := by grind
theorem num_zero (q : Rat) : q.num.natAbs = 0 ↔ q = 0 := by
  rw [← Rat.num_eq_zero]; omega
end Go.Proofs.YtlbbbafehhdpnaaDoor
