/- Naturals as lists of limbs: products and quotients by a word. No program in sight. -/
import Derived.Test.YtlbbbafehhdpnaaDoorLimbMath
namespace Go.Proofs.YtlbbbafehhdpnaaDoor
set_option linter.unusedVariables false
set_option linter.unusedSimpArgs false

abbrev Bs : Nat := 4294967296
theorem pow_succ32 (k : Nat) : 2 ^ (32 * (k + 1)) = 2 ^ (32 * k) * 4294967296 := by rw [Nat.mul_add, Nat.pow_add]
theorem getD_lt {l : List Nat} (h : small l) (k : Nat) : l.getD k 0 < 4294967296 := by
  rw [List.getD_eq_getElem?_getD]
  cases hk : l[k]? with
  | none => simp
  | some v => exact h v (List.mem_of_getElem? hk)
theorem small_set {l : List Nat} (h : small l) (k v : Nat) (hv : v < 4294967296) : small (l.set k v) := fun x hx => by
  rcases List.mem_or_eq_of_mem_set hx with h' | rfl
  · exact h x h'
  · exact hv
theorem lv_set (l : List Nat) (k v : Nat) (h : k < l.length) : lv (l.set k v) + 2 ^ (32 * k) * l.getD k 0 = lv l + 2 ^ (32 * k) * v := by
  induction l generalizing k with
  | nil => simp at h
  | cons a l ih =>
    cases k with
    | zero => simp [lv]; omega
    | succ k =>
      have := ih k (by simpa using h)
      simp only [List.set_cons_succ, lv, List.getD_cons_succ]
      rw [pow_succ32]
      generalize 2 ^ (32 * k) = P at *
      have e1 : P * 4294967296 * l.getD k 0 = 4294967296 * (P * l.getD k 0) := by rw [Nat.mul_comm P, Nat.mul_assoc]
      have e2 : P * 4294967296 * v = 4294967296 * (P * v) := by rw [Nat.mul_comm P, Nat.mul_assoc]
      rw [e1, e2]
      omega
theorem getD_set_ne' (l : List Nat) (k j v : Nat) (h : k ≠ j) : (l.set k v).getD j 0 = l.getD j 0 := by
  rw [List.getD_eq_getElem?_getD, List.getD_eq_getElem?_getD, List.getElem?_set_ne h]
theorem getD_set_self' (l : List Nat) (k v : Nat) (h : k < l.length) : (l.set k v).getD k 0 = v := by
  rw [List.getD_eq_getElem?_getD, List.getElem?_set_self h]
  rfl
theorem lv_takeD (l : List Nat) (k : Nat) (h : k < l.length) : lv (l.take (k + 1)) = lv (l.take k) + 2 ^ (32 * k) * l.getD k 0 := by
  rw [lv_take_succ l k h, List.getD_eq_getElem?_getD, List.getElem?_eq_getElem h]
  rfl

/-- the inner loop of the product: row o and carry behind j steps. -/
def mulSt (x i : Nat) (b o : List Nat) : Nat → List Nat × Nat
  | 0 => (o, 0)
  | j + 1 => ((mulSt x i b o j).1.set (i + j) (((mulSt x i b o j).2 + (x * b.getD j 0 + (mulSt x i b o j).1.getD (i + j) 0)) % 4294967296), ((mulSt x i b o j).2 + (x * b.getD j 0 + (mulSt x i b o j).1.getD (i + j) 0)) / 4294967296)
structure MulOk (x i : Nat) (b o : List Nat) (j : Nat) : Prop where
  len : (mulSt x i b o j).1.length = o.length
  sm : small (mulSt x i b o j).1
  carry : (mulSt x i b o j).2 < 4294967296
  far : ∀ t, i + j ≤ t → (mulSt x i b o j).1.getD t 0 = o.getD t 0
  val : lv (mulSt x i b o j).1 + 2 ^ (32 * (i + j)) * (mulSt x i b o j).2 = lv o + 2 ^ (32 * i) * (x * lv (b.take j))
theorem word_step (x y z c : Nat) (hx : x < 4294967296) (hy : y < 4294967296) (hz : z < 4294967296) (hc : c < 4294967296) : c + (x * y + z) < 18446744073709551616 := by
  have h1 : x * y ≤ 4294967295 * 4294967295 := Nat.mul_le_mul (by omega) (by omega)
  omega
theorem mul_ok (x i : Nat) (b o : List Nat) (hx : x < 4294967296) (hb : small b) (ho : small o) (hl : i + b.length ≤ o.length) : ∀ j, j ≤ b.length → MulOk x i b o j
  | 0, _ => ⟨rfl, ho, by simp [mulSt], fun t _ => rfl, by simp [mulSt, lv]⟩
  | j + 1, hj => by
    have h := mul_ok x i b o hx hb ho hl j (by omega)
    have hw := word_step x (b.getD j 0) ((mulSt x i b o j).1.getD (i + j) 0) (mulSt x i b o j).2 hx (getD_lt hb j) (getD_lt h.sm _) h.carry
    refine ⟨by simp only [mulSt]; rw [List.length_set, h.len], small_set h.sm _ _ (Nat.mod_lt _ (by decide)), by simp only [mulSt]; omega, fun t ht => ?_, ?_⟩
    · simp only [mulSt]
      rw [getD_set_ne' _ _ _ _ (by omega)]
      exact h.far t (by omega)
    · have hv := h.val
      have hs := lv_set (mulSt x i b o j).1 (i + j) (((mulSt x i b o j).2 + (x * b.getD j 0 + (mulSt x i b o j).1.getD (i + j) 0)) % 4294967296) (by rw [h.len]; omega)
      have ht := lv_takeD b j (by omega)
      simp only [mulSt]
      rw [show i + (j + 1) = i + j + 1 by omega, pow_succ32, ht]
      have hp : 2 ^ (32 * (i + j)) = 2 ^ (32 * i) * 2 ^ (32 * j) := by rw [← Nat.pow_add]; congr 1; omega
      generalize (mulSt x i b o j).1.getD (i + j) 0 = z at *
      generalize (mulSt x i b o j).2 = c at *
      generalize lv (mulSt x i b o j).1 = L at *
      generalize lv ((mulSt x i b o j).1.set (i + j) ((c + (x * b.getD j 0 + z)) % 4294967296)) = L' at *
      generalize b.getD j 0 = y at *
      generalize lv (b.take j) = T at *
      have hdm := Nat.div_add_mod (c + (x * y + z)) 4294967296
      generalize (c + (x * y + z)) % 4294967296 = r at *
      generalize (c + (x * y + z)) / 4294967296 = q at *
      generalize 2 ^ (32 * (i + j)) = Q at *
      have e1 : Q * 4294967296 * q = Q * (4294967296 * q) := Nat.mul_assoc _ _ _
      have e2 : Q * (c + (x * y + z)) = Q * (4294967296 * q) + Q * r := by rw [← hdm, Nat.mul_add]
      have e3 : Q * (c + (x * y + z)) = Q * c + (Q * (x * y) + Q * z) := by rw [Nat.mul_add, Nat.mul_add]
      have e4 : 2 ^ (32 * i) * (x * (T + 2 ^ (32 * j) * y)) = 2 ^ (32 * i) * (x * T) + Q * (x * y) := by
        rw [Nat.mul_add, Nat.mul_add, hp]
        congr 1
        rw [Nat.mul_left_comm x, Nat.mul_assoc]
      rw [e1, e4]
      omega
/-- one row of the product. -/
def mulRow (x i : Nat) (b o : List Nat) : List Nat := (mulSt x i b o b.length).1.set (i + b.length) (mulSt x i b o b.length).2
/-- the product behind i rows. -/
def mulAll (a b : List Nat) : Nat → List Nat
  | 0 => List.replicate (a.length + b.length) 0
  | i + 1 => mulRow (a.getD i 0) i b (mulAll a b i)
structure RowsOk (a b : List Nat) (i : Nat) : Prop where
  len : (mulAll a b i).length = a.length + b.length
  sm : small (mulAll a b i)
  far : ∀ t, i + b.length ≤ t → (mulAll a b i).getD t 0 = 0
  val : lv (mulAll a b i) = lv (a.take i) * lv b
theorem rep_getD0 (n t : Nat) : (List.replicate n 0).getD t 0 = 0 := by
  rw [List.getD_eq_getElem?_getD, List.getElem?_replicate]
  split <;> rfl
theorem rows_ok (a b : List Nat) (ha : small a) (hb : small b) : ∀ i, i ≤ a.length → RowsOk a b i
  | 0, _ => ⟨by simp [mulAll], by simp only [mulAll]; exact small_zeros _, fun t _ => by simp only [mulAll]; exact rep_getD0 _ _, by simp [mulAll, lv_zeros, lv]⟩
  | i + 1, hi => by
    have h := rows_ok a b ha hb i (by omega)
    have hm := mul_ok (a.getD i 0) i b (mulAll a b i) (getD_lt ha i) hb h.sm (by rw [h.len]; omega) b.length (Nat.le_refl _)
    have hml := hm.len
    have hll := h.len
    refine ⟨by simp only [mulAll, mulRow]; rw [List.length_set, hm.len, h.len], by simp only [mulAll, mulRow]; exact small_set hm.sm _ _ hm.carry, fun t ht => ?_, ?_⟩
    · simp only [mulAll, mulRow]
      rw [getD_set_ne' _ _ _ _ (by omega), hm.far t (by omega)]
      exact h.far t (by omega)
    · have hs := lv_set (mulSt (a.getD i 0) i b (mulAll a b i) b.length).1 (i + b.length) (mulSt (a.getD i 0) i b (mulAll a b i) b.length).2 (by omega)
      rw [hm.far _ (Nat.le_refl _), h.far _ (Nat.le_refl _), Nat.mul_zero, Nat.add_zero] at hs
      have hv := hm.val
      rw [List.take_of_length_le (Nat.le_refl _), h.val] at hv
      simp only [mulAll, mulRow]
      rw [hs, hv, lv_takeD a i (by omega), Nat.add_mul, Nat.mul_assoc]
theorem mul_val (a b : List Nat) (ha : small a) (hb : small b) : lv (mulAll a b a.length) = lv a * lv b := by
  have := (rows_ok a b ha hb a.length (Nat.le_refl _)).val
  rwa [List.take_of_length_le (Nat.le_refl _)] at this

/-- dividing by a word: the quotient's row and the rest behind k limbs from the top. -/
def divSt (a : List Nat) (w : Nat) : Nat → List Nat × Nat
  | 0 => (List.replicate a.length 0, 0)
  | k + 1 => ((divSt a w k).1.set (a.length - (k + 1)) (((divSt a w k).2 * 4294967296 + a.getD (a.length - (k + 1)) 0) / w), ((divSt a w k).2 * 4294967296 + a.getD (a.length - (k + 1)) 0) % w)
structure DivOk (a : List Nat) (w k : Nat) : Prop where
  len : (divSt a w k).1.length = a.length
  sm : small (divSt a w k).1
  rest : (divSt a w k).2 < w
  low : ∀ t, t < a.length - k → (divSt a w k).1.getD t 0 = 0
  val : lv (divSt a w k).1 * w + 2 ^ (32 * (a.length - k)) * (divSt a w k).2 + lv (a.take (a.length - k)) = lv a
theorem quot_lt (r x w : Nat) (hr : r < w) (hx : x < 4294967296) : (r * 4294967296 + x) / w < 4294967296 := by
  rw [Nat.div_lt_iff_lt_mul (by omega)]
  have : r * 4294967296 + 4294967296 ≤ w * 4294967296 := by rw [← Nat.succ_mul]; exact Nat.mul_le_mul (by omega) (Nat.le_refl _)
  omega
theorem div_ok (a : List Nat) (w : Nat) (ha : small a) (hw : 0 < w) : ∀ k, k ≤ a.length → DivOk a w k
  | 0, _ => ⟨by simp [divSt], by simp only [divSt]; exact small_zeros _, by simpa [divSt] using hw, fun t _ => by simp only [divSt]; exact rep_getD0 _ _, by simp [divSt, lv_zeros]⟩
  | k + 1, hk => by
    have h := div_ok a w ha hw k (by omega)
    have hl := h.len
    obtain ⟨i, hi⟩ : ∃ i, a.length - k = i + 1 := ⟨a.length - (k + 1), by omega⟩
    have hi' : a.length - (k + 1) = i := by omega
    have hlow := h.low
    have hval := h.val
    rw [hi] at hlow hval
    refine ⟨by simp only [divSt]; rw [List.length_set, h.len], by simp only [divSt]; exact small_set h.sm _ _ (quot_lt _ _ _ h.rest (getD_lt ha _)), by simp only [divSt]; exact Nat.mod_lt _ hw, fun t ht => ?_, ?_⟩
    · simp only [divSt]
      rw [getD_set_ne' _ _ _ _ (by omega)]
      exact hlow t (by omega)
    · simp only [divSt, hi']
      have hs := lv_set (divSt a w k).1 i (((divSt a w k).2 * 4294967296 + a.getD i 0) / w) (by omega)
      rw [hlow i (by omega), Nat.mul_zero, Nat.add_zero] at hs
      rw [hs]
      rw [lv_takeD a i (by omega), pow_succ32] at hval
      have hdm := Nat.div_add_mod ((divSt a w k).2 * 4294967296 + a.getD i 0) w
      generalize ((divSt a w k).2 * 4294967296 + a.getD i 0) / w = q at *
      generalize ((divSt a w k).2 * 4294967296 + a.getD i 0) % w = m at *
      generalize lv (divSt a w k).1 = L at *
      generalize (divSt a w k).2 = r at *
      generalize a.getD i 0 = x at *
      generalize 2 ^ (32 * i) = P at *
      generalize lv (a.take i) = T at *
      have e1 : (L + P * q) * w = L * w + P * (w * q) := by rw [Nat.add_mul, Nat.mul_assoc, Nat.mul_comm q w]
      have e2 : P * (w * q) + P * m = P * (r * 4294967296) + P * x := by rw [← Nat.mul_add, hdm, Nat.mul_add]
      have e3 : P * 4294967296 * r = P * (r * 4294967296) := by rw [Nat.mul_assoc, Nat.mul_comm r]
      rw [e1]
      rw [e3] at hval
      omega
theorem div_val (a : List Nat) (w : Nat) (ha : small a) (hw : 0 < w) : lv (divSt a w a.length).1 = lv a / w ∧ (divSt a w a.length).2 = lv a % w := by
  have h := div_ok a w ha hw a.length (Nat.le_refl _)
  have hv := h.val
  simp only [Nat.sub_self, Nat.mul_zero, Nat.pow_zero, Nat.one_mul, List.take_zero, lv, Nat.add_zero] at hv
  have hr := h.rest
  generalize lv (divSt a w a.length).1 = Q at *
  generalize (divSt a w a.length).2 = r at *
  rw [← hv]
  constructor
  · rw [Nat.mul_comm, Nat.mul_add_div hw, Nat.div_eq_of_lt hr, Nat.add_zero]
  · rw [Nat.mul_comm, Nat.mul_add_mod, Nat.mod_eq_of_lt hr]
end Go.Proofs.YtlbbbafehhdpnaaDoor
