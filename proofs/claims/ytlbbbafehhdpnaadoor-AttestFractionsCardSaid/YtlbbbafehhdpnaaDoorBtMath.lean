/- Numbers as lists of bits, least first; plain law. -/
import Derived.Test.YtlbbbafehhdpnaaDoorBools
namespace Go.Proofs.YtlbbbafehhdpnaaDoor
set_option linter.unusedVariables false
set_option linter.unusedSimpArgs false

def bvl : List Bool → Nat
  | [] => 0
  | b :: l => b.toNat + 2 * bvl l
def cutB : List Bool → List Bool
  | [] => []
  | b :: l => match cutB l with
    | [] => if b then [true] else []
    | c :: r => b :: c :: r
def tight (l : List Bool) : Prop := cutB l = l

theorem bvl_cut (l : List Bool) : bvl (cutB l) = bvl l := by
  induction l with
  | nil => rfl
  | cons b l ih =>
    rw [cutB, bvl, ← ih]
    cases h : cutB l with
    | nil => cases b <;> simp [bvl]
    | cons c r => simp [bvl]
theorem cut_false (l : List Bool) : cutB (l ++ [false]) = cutB l := by
  induction l with
  | nil => rfl
  | cons b l ih => rw [List.cons_append, cutB, cutB, ih]
theorem cut_true (l : List Bool) : cutB (l ++ [true]) = l ++ [true] := by
  induction l with
  | nil => rfl
  | cons b l ih =>
    rw [List.cons_append, cutB, ih]
    cases l <;> rfl
theorem cut_length (l : List Bool) : (cutB l).length ≤ l.length := by
  induction l with
  | nil => exact Nat.le_refl _
  | cons b l ih =>
    rw [cutB]
    cases h : cutB l with
    | nil => cases b <;> simp
    | cons c r => rw [h] at ih; simp at ih ⊢; omega
theorem tight_cut (l : List Bool) : tight (cutB l) := by
  unfold tight
  induction l with
  | nil => rfl
  | cons b l ih =>
    rw [cutB]
    cases h : cutB l with
    | nil => cases b <;> rfl
    | cons c r =>
      rw [h] at ih
      show cutB (b :: c :: r) = _
      rw [cutB, ih]
theorem tight_nil : tight [] := rfl
theorem bvl_lt (l : List Bool) : bvl l < 2 ^ l.length := by
  induction l with
  | nil => simp [bvl]
  | cons b l ih =>
    rw [bvl, List.length_cons, Nat.pow_succ]
    have : b.toNat ≤ 1 := by cases b <;> simp
    omega
theorem bvl_append (a b : List Bool) : bvl (a ++ b) = bvl a + 2 ^ a.length * bvl b := by
  induction a with
  | nil => simp [bvl]
  | cons x a ih =>
    rw [List.cons_append, bvl, bvl, ih, List.length_cons, Nat.pow_succ]
    have e : 2 ^ a.length * 2 * bvl b = 2 * (2 ^ a.length * bvl b) := by rw [Nat.mul_assoc, Nat.mul_left_comm]
    omega
theorem tight_cons {b : Bool} {l : List Bool} (h : tight (b :: l)) : tight l ∧ (l = [] → b = true) := by
  unfold tight at h ⊢
  rw [cutB] at h
  cases hc : cutB l with
  | nil =>
    rw [hc] at h
    cases b
    · simp at h
    · simp at h
      subst h
      exact ⟨rfl, fun _ => rfl⟩
  | cons c r =>
    rw [hc] at h
    simp at h
    refine ⟨h, fun e => ?_⟩
    subst e
    cases h
theorem tight_ge (l : List Bool) (h : tight l) (hne : l ≠ []) : 2 ^ l.length ≤ 2 * bvl l := by
  induction l with
  | nil => exact absurd rfl hne
  | cons b l ih =>
    obtain ⟨h1, h2⟩ := tight_cons h
    rw [bvl, List.length_cons, Nat.pow_succ]
    cases l with
    | nil => simp [h2 rfl, bvl]
    | cons c r =>
      have := ih h1 (by simp)
      omega
theorem tight_zero (l : List Bool) (h : tight l) : (l.length = 0 ↔ bvl l = 0) := by
  constructor
  · intro e
    rw [List.eq_nil_of_length_eq_zero e]
    rfl
  · intro e
    cases l with
    | nil => rfl
    | cons b l =>
      have := tight_ge _ h (by simp)
      have h2 : 0 < 2 ^ (b :: l).length := Nat.pow_pos (by omega)
      omega
/-- a shorter one is less. -/
theorem tight_lt (a b : List Bool) (hb : tight b) (h : a.length < b.length) : bvl a < bvl b := by
  have h1 := bvl_lt a
  have h2 := tight_ge b hb (by intro e; subst e; simp at h)
  have h3 : 2 ^ (a.length + 1) ≤ 2 ^ b.length := Nat.pow_le_pow_right (by omega) h
  rw [Nat.pow_succ] at h3
  omega
theorem tight_len (a b : List Bool) (hb : tight b) (h : bvl b ≤ bvl a) : b.length ≤ a.length := by
  rcases Nat.lt_or_ge a.length b.length with h1 | h1
  · have := tight_lt a b hb h1
    omega
  · exact h1
theorem bvl_top (a b : List Bool) (k : Nat) (hl : a.length = b.length) (hk : k < a.length) (hd : a.drop (k + 1) = b.drop (k + 1)) (h1 : a[k] = false) (h2 : b[k] = true) : bvl a < bvl b := by
  have e1 : a = a.take k ++ (false :: a.drop (k + 1)) := by rw [← h1]; simp
  have e2 : b = b.take k ++ (true :: a.drop (k + 1)) := by rw [hd, ← h2]; simp
  have hx := bvl_lt (a.take k)
  rw [List.length_take, Nat.min_eq_left (by omega)] at hx
  rw [e1, e2, bvl_append, bvl_append, List.length_take, List.length_take, Nat.min_eq_left (by omega), Nat.min_eq_left (by omega), bvl, bvl]
  simp
  generalize bvl (a.drop (k + 1)) = z
  generalize 2 ^ k = p at *
  have e3 : p * (1 + 2 * z) = p + p * (2 * z) := by rw [Nat.mul_add, Nat.mul_one]
  rw [e3]
  omega
/-- the difference, bit by bit. -/
theorem sub_step (o x y ow x' y' ow' d p : Nat) (h : o + y = x + ow * p) (hd : d + y' + ow = x' + 2 * ow') : o + p * d + (y + p * y') = x + p * x' + ow' * (p * 2) := by
  have h3 : p * d + p * y' + p * ow = p * x' + p * (2 * ow') := by rw [← Nat.mul_add, ← Nat.mul_add, ← Nat.mul_add, hd]
  have e1 : ow' * (p * 2) = p * (2 * ow') := by rw [Nat.mul_comm, Nat.mul_assoc]
  have e2 : p * ow = ow * p := Nat.mul_comm _ _
  omega
theorem bvl_take (l : List Bool) (i : Nat) (h : i < l.length) : bvl (l.take (i + 1)) = bvl (l.take i) + 2 ^ i * l[i].toNat := by
  rw [List.take_succ_eq_append_getElem h, bvl_append, List.length_take, Nat.min_eq_left (by omega)]
  simp [bvl]
theorem bvl_snoc (l : List Bool) (b : Bool) : bvl (l ++ [b]) = bvl l + 2 ^ l.length * b.toNat := by
  rw [bvl_append]
  simp [bvl]
end Go.Proofs.YtlbbbafehhdpnaaDoor
