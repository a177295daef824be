/- Long division of limbs: take, give, the guess, the whole. No program in sight. -/
import Derived.Test.YtlbbbafehhdpnaaDoorNatMath
namespace Go.Proofs.YtlbbbafehhdpnaaDoor
set_option linter.unusedVariables false
set_option linter.unusedSimpArgs false

/-- taking g * v off u: the row and what is owed behind i limbs. -/
def takeSt (g : Nat) (v u : List Nat) : Nat → List Nat × Nat
  | 0 => (u, 0)
  | i + 1 => ((takeSt g v u i).1.set i (((takeSt g v u i).1.getD i 0 + 4294967296 - (g * v.getD i 0 + (takeSt g v u i).2) % 4294967296) % 4294967296), (g * v.getD i 0 + (takeSt g v u i).2) / 4294967296 + (if (takeSt g v u i).1.getD i 0 < (g * v.getD i 0 + (takeSt g v u i).2) % 4294967296 then 1 else 0))
structure TakeOk (g : Nat) (v u : List Nat) (i : Nat) : Prop where
  len : (takeSt g v u i).1.length = u.length
  sm : small (takeSt g v u i).1
  owed : (takeSt g v u i).2 < 4294967296
  far : ∀ t, i ≤ t → (takeSt g v u i).1.getD t 0 = u.getD t 0
  val : lv (takeSt g v u i).1 + g * lv (v.take i) = lv u + 2 ^ (32 * i) * (takeSt g v u i).2
theorem take_p (g w c : Nat) (hg : g < 4294967296) (hw : w < 4294967296) (hc : c < 4294967296) : g * w + c ≤ 18446744069414584320 := by
  have h1 : g * w ≤ 4294967295 * 4294967295 := Nat.mul_le_mul (by omega) (by omega)
  omega
theorem take_owed (p x : Nat) (hp : p ≤ 18446744069414584320) : p / 4294967296 + (if x < p % 4294967296 then 1 else 0) < 4294967296 := by
  split <;> omega
theorem take_val (p x : Nat) (hx : x < 4294967296) : (x + 4294967296 - p % 4294967296) % 4294967296 + p = x + 4294967296 * (p / 4294967296 + (if x < p % 4294967296 then 1 else 0)) := by
  split <;> omega
theorem take_ok (g : Nat) (v u : List Nat) (hg : g < 4294967296) (hv : small v) (hu : small u) (hl : v.length ≤ u.length) : ∀ i, i ≤ v.length → TakeOk g v u i
  | 0, _ => ⟨rfl, hu, by simp [takeSt], fun t _ => rfl, by simp [takeSt, lv]⟩
  | i + 1, hi => by
    have h := take_ok g v u hg hv hu hl i (by omega)
    have hp := take_p g (v.getD i 0) (takeSt g v u i).2 hg (getD_lt hv i) h.owed
    refine ⟨by simp only [takeSt]; rw [List.length_set, h.len], small_set h.sm _ _ (Nat.mod_lt _ (by decide)), by simp only [takeSt]; exact take_owed _ _ hp, fun t ht => ?_, ?_⟩
    · simp only [takeSt]
      rw [getD_set_ne' _ _ _ _ (by omega)]
      exact h.far t (by omega)
    · have hval := h.val
      have hx := getD_lt h.sm i
      have hs := lv_set (takeSt g v u i).1 i (((takeSt g v u i).1.getD i 0 + 4294967296 - (g * v.getD i 0 + (takeSt g v u i).2) % 4294967296) % 4294967296) (by rw [h.len]; omega)
      have ht := lv_takeD v i (by omega)
      have hk := take_val (g * v.getD i 0 + (takeSt g v u i).2) ((takeSt g v u i).1.getD i 0) hx
      simp only [takeSt]
      rw [pow_succ32, ht]
      generalize lv ((takeSt g v u i).1.set i (((takeSt g v u i).1.getD i 0 + 4294967296 - (g * v.getD i 0 + (takeSt g v u i).2) % 4294967296) % 4294967296)) = L' at *
      generalize ((takeSt g v u i).1.getD i 0 + 4294967296 - (g * v.getD i 0 + (takeSt g v u i).2) % 4294967296) % 4294967296 = X' at *
      generalize (g * v.getD i 0 + (takeSt g v u i).2) / 4294967296 + (if (takeSt g v u i).1.getD i 0 < (g * v.getD i 0 + (takeSt g v u i).2) % 4294967296 then 1 else 0) = C' at *
      generalize (takeSt g v u i).1.getD i 0 = x at *
      generalize (takeSt g v u i).2 = c at *
      generalize lv (takeSt g v u i).1 = L at *
      generalize v.getD i 0 = y at *
      generalize lv (v.take i) = T at *
      generalize 2 ^ (32 * i) = Q at *
      have e1 : Q * (X' + (g * y + c)) = Q * (x + 4294967296 * C') := by rw [hk]
      have e2 : Q * (X' + (g * y + c)) = Q * X' + (Q * (g * y) + Q * c) := by rw [Nat.mul_add, Nat.mul_add]
      have e3 : Q * (x + 4294967296 * C') = Q * x + Q * 4294967296 * C' := by rw [Nat.mul_add, Nat.mul_assoc]
      have e4 : g * (T + Q * y) = g * T + Q * (g * y) := by rw [Nat.mul_add, Nat.mul_left_comm]
      rw [e4]
      omega
/-- u less g * v: the row, one limb longer than v. -/
def takeRow (g : Nat) (v u : List Nat) : List Nat := (takeSt g v u v.length).1.set v.length ((u.getD v.length 0 + 4294967296 - (takeSt g v u v.length).2) % 4294967296)
def takeBelow (g : Nat) (v u : List Nat) : Bool := decide (u.getD v.length 0 < (takeSt g v u v.length).2)
theorem takeRow_len (g : Nat) (v u : List Nat) (hg : g < 4294967296) (hv : small v) (hu : small u) (hl : v.length ≤ u.length) : (takeRow g v u).length = u.length := by
  unfold takeRow
  rw [List.length_set, (take_ok g v u hg hv hu hl _ (Nat.le_refl _)).len]
theorem takeRow_small (g : Nat) (v u : List Nat) (hg : g < 4294967296) (hv : small v) (hu : small u) (hl : v.length ≤ u.length) : small (takeRow g v u) :=
  small_set (take_ok g v u hg hv hu hl _ (Nat.le_refl _)).sm _ _ (Nat.mod_lt _ (by decide))
theorem last_val (x c : Nat) (hx : x < 4294967296) (hc : c < 4294967296) : (x + 4294967296 - c) % 4294967296 + c = x + 4294967296 * (if x < c then 1 else 0) := by
  split <;> omega
theorem takeRow_val (g : Nat) (v u : List Nat) (hg : g < 4294967296) (hv : small v) (hu : small u) (hl : u.length = v.length + 1) : lv (takeRow g v u) + g * lv v = lv u + 2 ^ (32 * (v.length + 1)) * (if takeBelow g v u = true then 1 else 0) := by
  have h := take_ok g v u hg hv hu (by omega) _ (Nat.le_refl _)
  have hval := h.val
  rw [List.take_of_length_le (Nat.le_refl _)] at hval
  have hs := lv_set (takeSt g v u v.length).1 v.length ((u.getD v.length 0 + 4294967296 - (takeSt g v u v.length).2) % 4294967296) (by rw [h.len]; omega)
  rw [h.far _ (Nat.le_refl _)] at hs
  have hk := last_val (u.getD v.length 0) (takeSt g v u v.length).2 (getD_lt hu _) h.owed
  unfold takeRow takeBelow
  rw [pow_succ32]
  simp only [decide_eq_true_eq]
  generalize (if u.getD v.length 0 < (takeSt g v u v.length).2 then 1 else 0) = b at *
  generalize lv ((takeSt g v u v.length).1.set v.length ((u.getD v.length 0 + 4294967296 - (takeSt g v u v.length).2) % 4294967296)) = L' at *
  generalize (u.getD v.length 0 + 4294967296 - (takeSt g v u v.length).2) % 4294967296 = X' at *
  generalize u.getD v.length 0 = x at *
  generalize (takeSt g v u v.length).2 = c at *
  generalize lv (takeSt g v u v.length).1 = L at *
  generalize 2 ^ (32 * v.length) = Q at *
  have e1 : Q * (X' + c) = Q * (x + 4294967296 * b) := by rw [hk]
  rw [Nat.mul_add, Nat.mul_add, ← Nat.mul_assoc Q] at e1
  omega

/-- giving v again. -/
def giveSt (v u : List Nat) : Nat → List Nat × Nat
  | 0 => (u, 0)
  | i + 1 => ((giveSt v u i).1.set i (((giveSt v u i).2 + ((giveSt v u i).1.getD i 0 + v.getD i 0)) % 4294967296), ((giveSt v u i).2 + ((giveSt v u i).1.getD i 0 + v.getD i 0)) / 4294967296)
structure GiveOk (v u : List Nat) (i : Nat) : Prop where
  len : (giveSt v u i).1.length = u.length
  sm : small (giveSt v u i).1
  carry : (giveSt v u i).2 ≤ 1
  far : ∀ t, i ≤ t → (giveSt v u i).1.getD t 0 = u.getD t 0
  val : lv (giveSt v u i).1 + 2 ^ (32 * i) * (giveSt v u i).2 = lv u + lv (v.take i)
theorem give_ok (v u : List Nat) (hv : small v) (hu : small u) (hl : v.length ≤ u.length) : ∀ i, i ≤ v.length → GiveOk v u i
  | 0, _ => ⟨rfl, hu, by simp [giveSt], fun t _ => rfl, by simp [giveSt, lv]⟩
  | i + 1, hi => by
    have h := give_ok v u hv hu hl i (by omega)
    have hx := getD_lt h.sm i
    have hy := getD_lt hv i
    have hc := h.carry
    refine ⟨by simp only [giveSt]; rw [List.length_set, h.len], small_set h.sm _ _ (Nat.mod_lt _ (by decide)), by simp only [giveSt]; omega, fun t ht => ?_, ?_⟩
    · simp only [giveSt]
      rw [getD_set_ne' _ _ _ _ (by omega)]
      exact h.far t (by omega)
    · have hval := h.val
      have hs := lv_set (giveSt v u i).1 i (((giveSt v u i).2 + ((giveSt v u i).1.getD i 0 + v.getD i 0)) % 4294967296) (by rw [h.len]; omega)
      have ht := lv_takeD v i (by omega)
      simp only [giveSt]
      rw [pow_succ32, ht]
      have hk := Nat.div_add_mod ((giveSt v u i).2 + ((giveSt v u i).1.getD i 0 + v.getD i 0)) 4294967296
      generalize lv ((giveSt v u i).1.set i (((giveSt v u i).2 + ((giveSt v u i).1.getD i 0 + v.getD i 0)) % 4294967296)) = L' at *
      generalize ((giveSt v u i).2 + ((giveSt v u i).1.getD i 0 + v.getD i 0)) % 4294967296 = X' at *
      generalize ((giveSt v u i).2 + ((giveSt v u i).1.getD i 0 + v.getD i 0)) / 4294967296 = C' at *
      generalize (giveSt v u i).1.getD i 0 = x at *
      generalize (giveSt v u i).2 = c at *
      generalize lv (giveSt v u i).1 = L at *
      generalize v.getD i 0 = y at *
      generalize lv (v.take i) = T at *
      generalize 2 ^ (32 * i) = Q at *
      have e1 : Q * (4294967296 * C' + X') = Q * (c + (x + y)) := by rw [hk]
      rw [Nat.mul_add, Nat.mul_add, Nat.mul_add, ← Nat.mul_assoc] at e1
      omega
def giveRow (v u : List Nat) : List Nat := (giveSt v u v.length).1.set v.length ((u.getD v.length 0 + (giveSt v u v.length).2) % 4294967296)
theorem giveRow_len (v u : List Nat) (hv : small v) (hu : small u) (hl : v.length ≤ u.length) : (giveRow v u).length = u.length := by
  unfold giveRow
  rw [List.length_set, (give_ok v u hv hu hl _ (Nat.le_refl _)).len]
theorem giveRow_small (v u : List Nat) (hv : small v) (hu : small u) (hl : v.length ≤ u.length) : small (giveRow v u) :=
  small_set (give_ok v u hv hu hl _ (Nat.le_refl _)).sm _ _ (Nat.mod_lt _ (by decide))
theorem giveRow_val (v u : List Nat) (hv : small v) (hu : small u) (hl : u.length = v.length + 1) : lv (giveRow v u) + 2 ^ (32 * (v.length + 1)) * ((u.getD v.length 0 + (giveSt v u v.length).2) / 4294967296) = lv u + lv v := by
  have h := give_ok v u hv hu (by omega) _ (Nat.le_refl _)
  have hval := h.val
  rw [List.take_of_length_le (Nat.le_refl _)] at hval
  have hs := lv_set (giveSt v u v.length).1 v.length ((u.getD v.length 0 + (giveSt v u v.length).2) % 4294967296) (by rw [h.len]; omega)
  rw [h.far _ (Nat.le_refl _)] at hs
  have hk := Nat.div_add_mod (u.getD v.length 0 + (giveSt v u v.length).2) 4294967296
  unfold giveRow
  rw [pow_succ32]
  generalize lv ((giveSt v u v.length).1.set v.length ((u.getD v.length 0 + (giveSt v u v.length).2) % 4294967296)) = L' at *
  generalize (u.getD v.length 0 + (giveSt v u v.length).2) % 4294967296 = X' at *
  generalize (u.getD v.length 0 + (giveSt v u v.length).2) / 4294967296 = C' at *
  generalize u.getD v.length 0 = x at *
  generalize (giveSt v u v.length).2 = c at *
  generalize lv (giveSt v u v.length).1 = L at *
  generalize 2 ^ (32 * v.length) = Q at *
  have e1 : Q * (4294967296 * C' + X') = Q * (x + c) := by rw [hk]
  rw [Nat.mul_add, Nat.mul_add, ← Nat.mul_assoc] at e1
  omega
end Go.Proofs.YtlbbbafehhdpnaaDoor
