/- Naturals as lists of 32-bit limbs. No program in sight. -/
import Derived.Laws.BitsAllLaws
namespace Go.Proofs.YtlbbbafehhdpnaaDoor

def lv : List Nat → Nat
  | [] => 0
  | a :: l => a + 4294967296 * lv l
def limbs (N : Nat) : List Nat := if N = 0 then [] else N % 4294967296 :: limbs (N / 4294967296)
termination_by N
decreasing_by omega

theorem limbs_zero : limbs 0 = [] := by rw [limbs]; simp
theorem limbs_pos (N : Nat) (h : N ≠ 0) : limbs N = N % 4294967296 :: limbs (N / 4294967296) := by rw [limbs, if_neg h]

def small (l : List Nat) : Prop := ∀ x ∈ l, x < 4294967296
theorem small_nil : small [] := fun x h => by cases h
theorem small_cons {a : Nat} {l : List Nat} : small (a :: l) ↔ a < 4294967296 ∧ small l := by simp [small]
theorem small_append {a b : List Nat} : small (a ++ b) ↔ small a ∧ small b := by
  constructor
  · intro h; exact ⟨fun x hx => h x (by simp [hx]), fun x hx => h x (by simp [hx])⟩
  · rintro ⟨h1, h2⟩ x hx
    rcases List.mem_append.1 hx with hx | hx
    · exact h1 x hx
    · exact h2 x hx
theorem small_take {l : List Nat} (h : small l) (k : Nat) : small (l.take k) := fun x hx => h x (List.mem_of_mem_take hx)
theorem small_drop {l : List Nat} (h : small l) (k : Nat) : small (l.drop k) := fun x hx => h x (List.mem_of_mem_drop hx)

theorem lv_limbs (N : Nat) : lv (limbs N) = N := by
  induction N using Nat.strongRecOn with
  | _ N ih =>
    by_cases h : N = 0
    · subst h; rw [limbs_zero]; rfl
    · rw [limbs_pos N h]
      simp only [lv]
      rw [ih _ (by omega)]
      omega
theorem limbs_small (N : Nat) : small (limbs N) := by
  induction N using Nat.strongRecOn with
  | _ N ih =>
    by_cases h : N = 0
    · subst h; rw [limbs_zero]; exact small_nil
    · rw [limbs_pos N h]
      exact small_cons.2 ⟨Nat.mod_lt _ (by decide), ih _ (by omega)⟩

theorem lv_append (a b : List Nat) : lv (a ++ b) = lv a + 2 ^ (32 * a.length) * lv b := by
  induction a with
  | nil => simp [lv]
  | cons x a ih =>
    simp only [List.cons_append, lv, ih, List.length_cons]
    rw [Nat.mul_add 32, Nat.pow_add, Nat.mul_add, ← Nat.add_assoc, ← Nat.mul_assoc, Nat.mul_comm (2 ^ (32 * a.length))]
theorem lv_lt (l : List Nat) (h : small l) : lv l < 2 ^ (32 * l.length) := by
  induction l with
  | nil => simp [lv]
  | cons x l ih =>
    obtain ⟨h1, h2⟩ := small_cons.1 h
    have := ih h2
    simp only [lv, List.length_cons]
    rw [Nat.mul_add 32, Nat.pow_add]
    have e : 2 ^ (32 * 1) = 4294967296 := by decide
    rw [e]
    generalize 2 ^ (32 * l.length) = p at *
    have : 4294967296 * (lv l + 1) ≤ 4294967296 * p := Nat.mul_le_mul_left _ (by omega)
    omega

/-- a list without noughts at its end is the one of its number -/
theorem limbs_lv (l : List Nat) (h : small l) (hc : ∀ (hl : l ≠ []), l.getLast hl ≠ 0) : limbs (lv l) = l := by
  induction l with
  | nil => exact limbs_zero
  | cons a l ih =>
    obtain ⟨h1, h2⟩ := small_cons.1 h
    have ih' := ih h2 fun hl => by
      have := hc (by simp)
      rwa [List.getLast_cons hl] at this
    by_cases hz : lv (a :: l) = 0
    · exfalso
      simp only [lv] at hz
      have ha : a = 0 := by omega
      have hl0 : lv l = 0 := by omega
      rw [hl0, limbs_zero] at ih'
      subst ih'
      exact hc (by simp) (by simpa using ha)
    · rw [limbs_pos _ hz]
      simp only [lv]
      have e1 : (a + 4294967296 * lv l) % 4294967296 = a := by omega
      have e2 : (a + 4294967296 * lv l) / 4294967296 = lv l := by omega
      rw [e1, e2, ih']

theorem limbs_length_le (l : List Nat) (h : small l) : (limbs (lv l)).length ≤ l.length := by
  induction l with
  | nil => rw [lv, limbs_zero]; simp
  | cons a l ih =>
    obtain ⟨h1, h2⟩ := small_cons.1 h
    have := ih h2
    by_cases hz : lv (a :: l) = 0
    · rw [hz, limbs_zero]; simp
    · rw [limbs_pos _ hz]
      simp only [lv]
      have e2 : (a + 4294967296 * lv l) / 4294967296 = lv l := by omega
      rw [e2]
      simpa using this

theorem lv_take_succ (l : List Nat) (k : Nat) (h : k < l.length) : lv (l.take (k + 1)) = lv (l.take k) + 2 ^ (32 * k) * l[k] := by
  rw [List.take_succ_eq_append_getElem h, lv_append]
  simp only [lv, List.length_take, Nat.min_eq_left (Nat.le_of_lt h), Nat.mul_zero, Nat.add_zero]
theorem lv_zeros (n : Nat) : lv (List.replicate n 0) = 0 := by
  induction n with
  | zero => rfl
  | succ n ih => simp [List.replicate_succ, lv, ih]
theorem small_zeros (n : Nat) : small (List.replicate n 0) := fun x hx => by rw [(List.mem_replicate.1 hx).2]; decide

/-- the limbs of a number, one by one -/
theorem lv_of_digits (l : List Nat) (W : Nat) (h : ∀ i (hi : i < l.length), l[i] = W / 2 ^ (32 * i) % 4294967296) : lv l = W % 2 ^ (32 * l.length) := by
  induction l generalizing W with
  | nil => simp [lv, Nat.mod_one]
  | cons a l ih =>
    have h0 : a = W % 4294967296 := by
      have := h 0 (by simp)
      rw [List.getElem_cons_zero] at this
      rw [this]; simp
    have ih' := ih (W / 4294967296) fun i hi => by
      have := h (i + 1) (by simpa using hi)
      rw [List.getElem_cons_succ] at this
      rw [this, Nat.mul_add 32, Nat.pow_add, Nat.div_div_eq_div_mul, Nat.mul_comm (2 ^ (32 * i))]
    simp only [lv, ih', List.length_cons]
    rw [Nat.mul_add 32, Nat.add_comm (32 * l.length), Nat.pow_add]
    have e : 2 ^ (32 * 1) = 4294967296 := by decide
    rw [e, Nat.mod_mul, h0]

/-- one limb of a shift to the right -/
theorem shr_limb (V i s : Nat) (hs : s < 32) : (V / 2 ^ (32 * i) % 18446744073709551616 / 2 ^ s) % 4294967296 = V / 2 ^ s / 2 ^ (32 * i) % 4294967296 := by
  rw [Nat.div_div_eq_div_mul V, Nat.mul_comm (2 ^ s), ← Nat.div_div_eq_div_mul]
  generalize V / 2 ^ (32 * i) = X
  have e : (18446744073709551616 : Nat) = 2 ^ s * 2 ^ (64 - s) := by
    rw [← Nat.pow_add]
    have : s + (64 - s) = 64 := by omega
    rw [this]
  rw [e, Nat.mod_mul_right_div_self]
  have e2 : (2 : Nat) ^ (64 - s) = 4294967296 * 2 ^ (32 - s) := by
    have : (4294967296 : Nat) = 2 ^ 32 := by decide
    rw [this, ← Nat.pow_add]
    congr 1; omega
  rw [e2, Nat.mod_mul_right_mod]
theorem lv_drop (l : List Nat) (k : Nat) (h : small l) (hk : k ≤ l.length) : lv (l.drop k) = lv l / 2 ^ (32 * k) := by
  have h1 := lv_append (l.take k) (l.drop k)
  rw [List.take_append_drop] at h1
  have h2 := lv_lt _ (small_take h k)
  rw [List.length_take, Nat.min_eq_left hk] at h1 h2
  rw [h1, Nat.add_mul_div_left _ _ (Nat.pow_pos (by omega)), Nat.div_eq_of_lt h2, Nat.zero_add]
theorem lv_limb (l : List Nat) (k : Nat) (h : small l) (hk : k < l.length) : l[k] = lv l / 2 ^ (32 * k) % 4294967296 := by
  rw [← lv_drop l k h (by omega), List.drop_eq_getElem_cons hk]
  simp only [lv]
  have := h l[k] (List.getElem_mem _)
  omega

/-- a list by a function -/
def rowN (n : Nat) (f : Nat → Nat) : List Nat := (List.range n).map f
theorem rowN_length (n : Nat) (f : Nat → Nat) : (rowN n f).length = n := by simp [rowN]
theorem rowN_get (n : Nat) (f : Nat → Nat) (i : Nat) (h : i < (rowN n f).length) : (rowN n f)[i] = f i := by simp [rowN]
theorem rowN_set (n : Nat) (f g : Nat → Nat) (k b : Nat) (hk : k < n) (h1 : g k = b) (h2 : ∀ i, i ≠ k → i < n → g i = f i) : (rowN n f).set k b = rowN n g := by
  apply List.ext_getElem
  · simp [rowN]
  · intro i h1' h2'
    rw [List.getElem_set, rowN_get, rowN_get]
    split
    · subst_vars; rfl
    · rw [h2 i (by omega) (by rw [rowN_length] at h2'; exact h2')]
theorem rowN_zeros (n : Nat) (f : Nat → Nat) (h : ∀ i, i < n → f i = 0) : List.replicate n 0 = rowN n f := by
  apply List.ext_getElem
  · simp [rowN]
  · intro i h1 h2
    rw [rowN_get, h i (by simpa using h1)]; simp
/-- the list of Shr after k steps -/
def shrRow (V s k i : Nat) : Nat := if i < k then V / 2 ^ s / 2 ^ (32 * i) % 4294967296 else 0
theorem shrRow_step (V s m k : Nat) (hk : k < m) : (rowN m (shrRow V s k)).set k (V / 2 ^ s / 2 ^ (32 * k) % 4294967296) = rowN m (shrRow V s (k + 1)) := by
  refine rowN_set _ _ _ _ _ hk ?_ fun i hne _ => ?_
  · unfold shrRow; rw [if_pos (by omega)]
  · unfold shrRow
    by_cases h : i < k
    · rw [if_pos h, if_pos (by omega)]
    · rw [if_neg h, if_neg (by omega)]
theorem shrRow_lt (V s k i : Nat) : shrRow V s k i < 4294967296 := by
  unfold shrRow
  split
  · exact Nat.mod_lt _ (by decide)
  · decide
theorem shrRow_end (V s m : Nat) (hV : V < 2 ^ (32 * m)) : lv (rowN m (shrRow V s m)) = V / 2 ^ s := by
  rw [lv_of_digits _ (V / 2 ^ s) fun i hi => by rw [rowN_get, shrRow, if_pos (by rw [rowN_length] at hi; exact hi)], rowN_length]
  exact Nat.mod_eq_of_lt (Nat.lt_of_le_of_lt (Nat.div_le_self _ _) hV)
theorem small_rowN (n : Nat) (f : Nat → Nat) (h : ∀ i, f i < 4294967296) : small (rowN n f) := by
  intro x hx
  obtain ⟨i, _, rfl⟩ := List.mem_map.1 hx
  exact h i
/-- two limbs together -/
theorem two_limbs (ys : List Nat) (k : Nat) (h : small ys) (hk : k < ys.length) (Y : Nat) (hY : (hk1 : k + 1 < ys.length) → Y = ys[k + 1]) (hY0 : ys.length ≤ k + 1 → Y = 0) (s : Nat) (hs : s < 32) :
    (ys[k] + 4294967296 * Y) / 2 ^ s % 4294967296 = lv ys / 2 ^ s / 2 ^ (32 * k) % 4294967296 := by
  rw [← shr_limb _ _ _ hs, ← lv_drop ys k h (by omega), List.drop_eq_getElem_cons hk]
  simp only [lv]
  have hx := h ys[k] (List.getElem_mem _)
  have hd : lv (ys.drop (k + 1)) % 4294967296 = Y := by
    by_cases h1 : k + 1 < ys.length
    · rw [List.drop_eq_getElem_cons h1, hY h1]
      simp only [lv]
      have := h ys[k + 1] (List.getElem_mem _)
      omega
    · rw [List.drop_of_length_le (by omega), hY0 (by omega)]; rfl
  have e : (ys[k] + 4294967296 * lv (ys.drop (k + 1))) % 18446744073709551616 = ys[k] + 4294967296 * Y := by omega
  rw [e]

end Go.Proofs.YtlbbbafehhdpnaaDoor

namespace Go.Proofs.YtlbbbafehhdpnaaDoor
set_option linter.unusedVariables false
set_option linter.unusedSimpArgs false

abbrev Bs : Nat := 4294967296
theorem pow_succ32 (k : Nat) : 2 ^ (32 * (k + 1)) = 2 ^ (32 * k) * 4294967296 := by rw [Nat.mul_add, Nat.pow_add]
theorem getD_lt {l : List Nat} (h : small l) (k : Nat) : l.getD k 0 < 4294967296 := by
  rw [List.getD_eq_getElem?_getD]
  cases hk : l[k]? with
  | none => simp
  | some v => exact h v (List.mem_of_getElem? hk)
theorem small_set {l : List Nat} (h : small l) (k v : Nat) (hv : v < 4294967296) : small (l.set k v) := fun x hx => by
  rcases List.mem_or_eq_of_mem_set hx with h' | rfl
  · exact h x h'
  · exact hv
theorem lv_set (l : List Nat) (k v : Nat) (h : k < l.length) : lv (l.set k v) + 2 ^ (32 * k) * l.getD k 0 = lv l + 2 ^ (32 * k) * v := by
  induction l generalizing k with
  | nil => simp at h
  | cons a l ih =>
    cases k with
    | zero => simp [lv]; omega
    | succ k =>
      have := ih k (by simpa using h)
      simp only [List.set_cons_succ, lv, List.getD_cons_succ]
      rw [pow_succ32]
      generalize 2 ^ (32 * k) = P at *
      have e1 : P * 4294967296 * l.getD k 0 = 4294967296 * (P * l.getD k 0) := by rw [Nat.mul_comm P, Nat.mul_assoc]
      have e2 : P * 4294967296 * v = 4294967296 * (P * v) := by rw [Nat.mul_comm P, Nat.mul_assoc]
      rw [e1, e2]
      omega
theorem getD_set_ne' (l : List Nat) (k j v : Nat) (h : k ≠ j) : (l.set k v).getD j 0 = l.getD j 0 := by
  rw [List.getD_eq_getElem?_getD, List.getD_eq_getElem?_getD, List.getElem?_set_ne h]
theorem getD_set_self' (l : List Nat) (k v : Nat) (h : k < l.length) : (l.set k v).getD k 0 = v := by
  rw [List.getD_eq_getElem?_getD, List.getElem?_set_self h]
  rfl
theorem lv_takeD (l : List Nat) (k : Nat) (h : k < l.length) : lv (l.take (k + 1)) = lv (l.take k) + 2 ^ (32 * k) * l.getD k 0 := by
  rw [lv_take_succ l k h, List.getD_eq_getElem?_getD, List.getElem?_eq_getElem h]
  rfl

/-- the inner loop of the product: row o and carry behind j steps. -/
def mulSt (x i : Nat) (b o : List Nat) : Nat → List Nat × Nat
  | 0 => (o, 0)
  | j + 1 => ((mulSt x i b o j).1.set (i + j) (((mulSt x i b o j).2 + (x * b.getD j 0 + (mulSt x i b o j).1.getD (i + j) 0)) % 4294967296), ((mulSt x i b o j).2 + (x * b.getD j 0 + (mulSt x i b o j).1.getD (i + j) 0)) / 4294967296)
structure MulOk (x i : Nat) (b o : List Nat) (j : Nat) : Prop where
  len : (mulSt x i b o j).1.length = o.length
  sm : small (mulSt x i b o j).1
  carry : (mulSt x i b o j).2 < 4294967296
  far : ∀ t, i + j ≤ t → (mulSt x i b o j).1.getD t 0 = o.getD t 0
  val : lv (mulSt x i b o j).1 + 2 ^ (32 * (i + j)) * (mulSt x i b o j).2 = lv o + 2 ^ (32 * i) * (x * lv (b.take j))
theorem word_step (x y z c : Nat) (hx : x < 4294967296) (hy : y < 4294967296) (hz : z < 4294967296) (hc : c < 4294967296) : c + (x * y + z) < 18446744073709551616 := by
  have h1 : x * y ≤ 4294967295 * 4294967295 := Nat.mul_le_mul (by omega) (by omega)
  omega
theorem mul_ok (x i : Nat) (b o : List Nat) (hx : x < 4294967296) (hb : small b) (ho : small o) (hl : i + b.length ≤ o.length) : ∀ j, j ≤ b.length → MulOk x i b o j
  | 0, _ => ⟨rfl, ho, by simp [mulSt], fun t _ => rfl, by simp [mulSt, lv]⟩
  | j + 1, hj => by
    have h := mul_ok x i b o hx hb ho hl j (by omega)
    have hw := word_step x (b.getD j 0) ((mulSt x i b o j).1.getD (i + j) 0) (mulSt x i b o j).2 hx (getD_lt hb j) (getD_lt h.sm _) h.carry
    refine ⟨by simp only [mulSt]; rw [List.length_set, h.len], small_set h.sm _ _ (Nat.mod_lt _ (by decide)), by simp only [mulSt]; omega, fun t ht => ?_, ?_⟩
    · simp only [mulSt]
      rw [getD_set_ne' _ _ _ _ (by omega)]
      exact h.far t (by omega)
    · have hv := h.val
      have hs := lv_set (mulSt x i b o j).1 (i + j) (((mulSt x i b o j).2 + (x * b.getD j 0 + (mulSt x i b o j).1.getD (i + j) 0)) % 4294967296) (by rw [h.len]; omega)
      have ht := lv_takeD b j (by omega)
      simp only [mulSt]
      rw [show i + (j + 1) = i + j + 1 by omega, pow_succ32, ht]
      have hp : 2 ^ (32 * (i + j)) = 2 ^ (32 * i) * 2 ^ (32 * j) := by rw [← Nat.pow_add]; congr 1; omega
      generalize (mulSt x i b o j).1.getD (i + j) 0 = z at *
      generalize (mulSt x i b o j).2 = c at *
      generalize lv (mulSt x i b o j).1 = L at *
      generalize lv ((mulSt x i b o j).1.set (i + j) ((c + (x * b.getD j 0 + z)) % 4294967296)) = L' at *
      generalize b.getD j 0 = y at *
      generalize lv (b.take j) = T at *
      have hdm := Nat.div_add_mod (c + (x * y + z)) 4294967296
      generalize (c + (x * y + z)) % 4294967296 = r at *
      generalize (c + (x * y + z)) / 4294967296 = q at *
      generalize 2 ^ (32 * (i + j)) = Q at *
      have e1 : Q * 4294967296 * q = Q * (4294967296 * q) := Nat.mul_assoc _ _ _
      have e2 : Q * (c + (x * y + z)) = Q * (4294967296 * q) + Q * r := by rw [← hdm, Nat.mul_add]
      have e3 : Q * (c + (x * y + z)) = Q * c + (Q * (x * y) + Q * z) := by rw [Nat.mul_add, Nat.mul_add]
      have e4 : 2 ^ (32 * i) * (x * (T + 2 ^ (32 * j) * y)) = 2 ^ (32 * i) * (x * T) + Q * (x * y) := by
        rw [Nat.mul_add, Nat.mul_add, hp]
        congr 1
        rw [Nat.mul_left_comm x, Nat.mul_assoc]
      rw [e1, e4]
      omega
/-- one row of the product. -/
def mulRow (x i : Nat) (b o : List Nat) : List Nat := (mulSt x i b o b.length).1.set (i + b.length) (mulSt x i b o b.length).2
/-- the product behind i rows. -/
def mulAll (a b : List Nat) : Nat → List Nat
  | 0 => List.replicate (a.length + b.length) 0
  | i + 1 => mulRow (a.getD i 0) i b (mulAll a b i)
structure RowsOk (a b : List Nat) (i : Nat) : Prop where
  len : (mulAll a b i).length = a.length + b.length
  sm : small (mulAll a b i)
  far : ∀ t, i + b.length ≤ t → (mulAll a b i).getD t 0 = 0
  val : lv (mulAll a b i) = lv (a.take i) * lv b
theorem rep_getD0 (n t : Nat) : (List.replicate n 0).getD t 0 = 0 := by
  rw [List.getD_eq_getElem?_getD, List.getElem?_replicate]
  split <;> rfl
theorem rows_ok (a b : List Nat) (ha : small a) (hb : small b) : ∀ i, i ≤ a.length → RowsOk a b i
  | 0, _ => ⟨by simp [mulAll], by simp only [mulAll]; exact small_zeros _, fun t _ => by simp only [mulAll]; exact rep_getD0 _ _, by simp [mulAll, lv_zeros, lv]⟩
  | i + 1, hi => by
    have h := rows_ok a b ha hb i (by omega)
    have hm := mul_ok (a.getD i 0) i b (mulAll a b i) (getD_lt ha i) hb h.sm (by rw [h.len]; omega) b.length (Nat.le_refl _)
    have hml := hm.len
    have hll := h.len
    refine ⟨by simp only [mulAll, mulRow]; rw [List.length_set, hm.len, h.len], by simp only [mulAll, mulRow]; exact small_set hm.sm _ _ hm.carry, fun t ht => ?_, ?_⟩
    · simp only [mulAll, mulRow]
      rw [getD_set_ne' _ _ _ _ (by omega), hm.far t (by omega)]
      exact h.far t (by omega)
    · have hs := lv_set (mulSt (a.getD i 0) i b (mulAll a b i) b.length).1 (i + b.length) (mulSt (a.getD i 0) i b (mulAll a b i) b.length).2 (by omega)
      rw [hm.far _ (Nat.le_refl _), h.far _ (Nat.le_refl _), Nat.mul_zero, Nat.add_zero] at hs
      have hv := hm.val
      rw [List.take_of_length_le (Nat.le_refl _), h.val] at hv
      simp only [mulAll, mulRow]
      rw [hs, hv, lv_takeD a i (by omega), Nat.add_mul, Nat.mul_assoc]
theorem mul_val (a b : List Nat) (ha : small a) (hb : small b) : lv (mulAll a b a.length) = lv a * lv b := by
  have := (rows_ok a b ha hb a.length (Nat.le_refl _)).val
  rwa [List.take_of_length_le (Nat.le_refl _)] at this

/-- dividing by a word: the quotient's row and the rest behind k limbs from the top. -/
def divSt (a : List Nat) (w : Nat) : Nat → List Nat × Nat
  | 0 => (List.replicate a.length 0, 0)
  | k + 1 => ((divSt a w k).1.set (a.length - (k + 1)) (((divSt a w k).2 * 4294967296 + a.getD (a.length - (k + 1)) 0) / w), ((divSt a w k).2 * 4294967296 + a.getD (a.length - (k + 1)) 0) % w)
structure DivOk (a : List Nat) (w k : Nat) : Prop where
  len : (divSt a w k).1.length = a.length
  sm : small (divSt a w k).1
  rest : (divSt a w k).2 < w
  low : ∀ t, t < a.length - k → (divSt a w k).1.getD t 0 = 0
  val : lv (divSt a w k).1 * w + 2 ^ (32 * (a.length - k)) * (divSt a w k).2 + lv (a.take (a.length - k)) = lv a
theorem quot_lt (r x w : Nat) (hr : r < w) (hx : x < 4294967296) : (r * 4294967296 + x) / w < 4294967296 := by
  rw [Nat.div_lt_iff_lt_mul (by omega)]
  have : r * 4294967296 + 4294967296 ≤ w * 4294967296 := by rw [← Nat.succ_mul]; exact Nat.mul_le_mul (by omega) (Nat.le_refl _)
  omega
theorem div_ok (a : List Nat) (w : Nat) (ha : small a) (hw : 0 < w) : ∀ k, k ≤ a.length → DivOk a w k
  | 0, _ => ⟨by simp [divSt], by simp only [divSt]; exact small_zeros _, by simpa [divSt] using hw, fun t _ => by simp only [divSt]; exact rep_getD0 _ _, by simp [divSt, lv_zeros]⟩
  | k + 1, hk => by
    have h := div_ok a w ha hw k (by omega)
    have hl := h.len
    obtain ⟨i, hi⟩ : ∃ i, a.length - k = i + 1 := ⟨a.length - (k + 1), by omega⟩
    have hi' : a.length - (k + 1) = i := by omega
    have hlow := h.low
    have hval := h.val
    rw [hi] at hlow hval
    refine ⟨by simp only [divSt]; rw [List.length_set, h.len], by simp only [divSt]; exact small_set h.sm _ _ (quot_lt _ _ _ h.rest (getD_lt ha _)), by simp only [divSt]; exact Nat.mod_lt _ hw, fun t ht => ?_, ?_⟩
    · simp only [divSt]
      rw [getD_set_ne' _ _ _ _ (by omega)]
      exact hlow t (by omega)
    · simp only [divSt, hi']
      have hs := lv_set (divSt a w k).1 i (((divSt a w k).2 * 4294967296 + a.getD i 0) / w) (by omega)
      rw [hlow i (by omega), Nat.mul_zero, Nat.add_zero] at hs
      rw [hs]
      rw [lv_takeD a i (by omega), pow_succ32] at hval
      have hdm := Nat.div_add_mod ((divSt a w k).2 * 4294967296 + a.getD i 0) w
      generalize ((divSt a w k).2 * 4294967296 + a.getD i 0) / w = q at *
      generalize ((divSt a w k).2 * 4294967296 + a.getD i 0) % w = m at *
      generalize lv (divSt a w k).1 = L at *
      generalize (divSt a w k).2 = r at *
      generalize a.getD i 0 = x at *
      generalize 2 ^ (32 * i) = P at *
      generalize lv (a.take i) = T at *
      have e1 : (L + P * q) * w = L * w + P * (w * q) := by rw [Nat.add_mul, Nat.mul_assoc, Nat.mul_comm q w]
      have e2 : P * (w * q) + P * m = P * (r * 4294967296) + P * x := by rw [← Nat.mul_add, hdm, Nat.mul_add]
      have e3 : P * 4294967296 * r = P * (r * 4294967296) := by rw [Nat.mul_assoc, Nat.mul_comm r]
      rw [e1]
      rw [e3] at hval
      omega
theorem div_val (a : List Nat) (w : Nat) (ha : small a) (hw : 0 < w) : lv (divSt a w a.length).1 = lv a / w ∧ (divSt a w a.length).2 = lv a % w := by
  have h := div_ok a w ha hw a.length (Nat.le_refl _)
  have hv := h.val
  simp only [Nat.sub_self, Nat.mul_zero, Nat.pow_zero, Nat.one_mul, List.take_zero, lv, Nat.add_zero] at hv
  have hr := h.rest
  generalize lv (divSt a w a.length).1 = Q at *
  generalize (divSt a w a.length).2 = r at *
  rw [← hv]
  constructor
  · rw [Nat.mul_comm, Nat.mul_add_div hw, Nat.div_eq_of_lt hr, Nat.add_zero]
  · rw [Nat.mul_comm, Nat.mul_add_mod, Nat.mod_eq_of_lt hr]
end Go.Proofs.YtlbbbafehhdpnaaDoor

namespace Go.Proofs.YtlbbbafehhdpnaaDoor
set_option linter.unusedVariables false
set_option linter.unusedSimpArgs false

/-- taking g * v off u: the row and what is owed behind i limbs. -/
def takeSt (g : Nat) (v u : List Nat) : Nat → List Nat × Nat
  | 0 => (u, 0)
  | i + 1 => ((takeSt g v u i).1.set i (((takeSt g v u i).1.getD i 0 + 4294967296 - (g * v.getD i 0 + (takeSt g v u i).2) % 4294967296) % 4294967296), (g * v.getD i 0 + (takeSt g v u i).2) / 4294967296 + (if (takeSt g v u i).1.getD i 0 < (g * v.getD i 0 + (takeSt g v u i).2) % 4294967296 then 1 else 0))
structure TakeOk (g : Nat) (v u : List Nat) (i : Nat) : Prop where
  len : (takeSt g v u i).1.length = u.length
  sm : small (takeSt g v u i).1
  owed : (takeSt g v u i).2 < 4294967296
  far : ∀ t, i ≤ t → (takeSt g v u i).1.getD t 0 = u.getD t 0
  val : lv (takeSt g v u i).1 + g * lv (v.take i) = lv u + 2 ^ (32 * i) * (takeSt g v u i).2
theorem take_p (g w c : Nat) (hg : g < 4294967296) (hw : w < 4294967296) (hc : c < 4294967296) : g * w + c ≤ 18446744069414584320 := by
  have h1 : g * w ≤ 4294967295 * 4294967295 := Nat.mul_le_mul (by omega) (by omega)
  omega
theorem take_owed (p x : Nat) (hp : p ≤ 18446744069414584320) : p / 4294967296 + (if x < p % 4294967296 then 1 else 0) < 4294967296 := by
  split <;> omega
theorem take_val (p x : Nat) (hx : x < 4294967296) : (x + 4294967296 - p % 4294967296) % 4294967296 + p = x + 4294967296 * (p / 4294967296 + (if x < p % 4294967296 then 1 else 0)) := by
  split <;> omega
theorem take_ok (g : Nat) (v u : List Nat) (hg : g < 4294967296) (hv : small v) (hu : small u) (hl : v.length ≤ u.length) : ∀ i, i ≤ v.length → TakeOk g v u i
  | 0, _ => ⟨rfl, hu, by simp [takeSt], fun t _ => rfl, by simp [takeSt, lv]⟩
  | i + 1, hi => by
    have h := take_ok g v u hg hv hu hl i (by omega)
    have hp := take_p g (v.getD i 0) (takeSt g v u i).2 hg (getD_lt hv i) h.owed
    refine ⟨by simp only [takeSt]; rw [List.length_set, h.len], small_set h.sm _ _ (Nat.mod_lt _ (by decide)), by simp only [takeSt]; exact take_owed _ _ hp, fun t ht => ?_, ?_⟩
    · simp only [takeSt]
      rw [getD_set_ne' _ _ _ _ (by omega)]
      exact h.far t (by omega)
    · have hval := h.val
      have hx := getD_lt h.sm i
      have hs := lv_set (takeSt g v u i).1 i (((takeSt g v u i).1.getD i 0 + 4294967296 - (g * v.getD i 0 + (takeSt g v u i).2) % 4294967296) % 4294967296) (by rw [h.len]; omega)
      have ht := lv_takeD v i (by omega)
      have hk := take_val (g * v.getD i 0 + (takeSt g v u i).2) ((takeSt g v u i).1.getD i 0) hx
      simp only [takeSt]
      rw [pow_succ32, ht]
      generalize lv ((takeSt g v u i).1.set i (((takeSt g v u i).1.getD i 0 + 4294967296 - (g * v.getD i 0 + (takeSt g v u i).2) % 4294967296) % 4294967296)) = L' at *
      generalize ((takeSt g v u i).1.getD i 0 + 4294967296 - (g * v.getD i 0 + (takeSt g v u i).2) % 4294967296) % 4294967296 = X' at *
      generalize (g * v.getD i 0 + (takeSt g v u i).2) / 4294967296 + (if (takeSt g v u i).1.getD i 0 < (g * v.getD i 0 + (takeSt g v u i).2) % 4294967296 then 1 else 0) = C' at *
      generalize (takeSt g v u i).1.getD i 0 = x at *
      generalize (takeSt g v u i).2 = c at *
      generalize lv (takeSt g v u i).1 = L at *
      generalize v.getD i 0 = y at *
      generalize lv (v.take i) = T at *
      generalize 2 ^ (32 * i) = Q at *
      have e1 : Q * (X' + (g * y + c)) = Q * (x + 4294967296 * C') := by rw [hk]
      have e2 : Q * (X' + (g * y + c)) = Q * X' + (Q * (g * y) + Q * c) := by rw [Nat.mul_add, Nat.mul_add]
      have e3 : Q * (x + 4294967296 * C') = Q * x + Q * 4294967296 * C' := by rw [Nat.mul_add, Nat.mul_assoc]
      have e4 : g * (T + Q * y) = g * T + Q * (g * y) := by rw [Nat.mul_add, Nat.mul_left_comm]
      rw [e4]
      omega
/-- u less g * v: the row, one limb longer than v. -/
def takeRow (g : Nat) (v u : List Nat) : List Nat := (takeSt g v u v.length).1.set v.length ((u.getD v.length 0 + 4294967296 - (takeSt g v u v.length).2) % 4294967296)
def takeBelow (g : Nat) (v u : List Nat) : Bool := decide (u.getD v.length 0 < (takeSt g v u v.length).2)
theorem takeRow_len (g : Nat) (v u : List Nat) (hg : g < 4294967296) (hv : small v) (hu : small u) (hl : v.length ≤ u.length) : (takeRow g v u).length = u.length := by
  unfold takeRow
  rw [List.length_set, (take_ok g v u hg hv hu hl _ (Nat.le_refl _)).len]
theorem takeRow_small (g : Nat) (v u : List Nat) (hg : g < 4294967296) (hv : small v) (hu : small u) (hl : v.length ≤ u.length) : small (takeRow g v u) :=
  small_set (take_ok g v u hg hv hu hl _ (Nat.le_refl _)).sm _ _ (Nat.mod_lt _ (by decide))
theorem last_val (x c : Nat) (hx : x < 4294967296) (hc : c < 4294967296) : (x + 4294967296 - c) % 4294967296 + c = x + 4294967296 * (if x < c then 1 else 0) := by
  split <;> omega
theorem takeRow_val (g : Nat) (v u : List Nat) (hg : g < 4294967296) (hv : small v) (hu : small u) (hl : u.length = v.length + 1) : lv (takeRow g v u) + g * lv v = lv u + 2 ^ (32 * (v.length + 1)) * (if takeBelow g v u = true then 1 else 0) := by
  have h := take_ok g v u hg hv hu (by omega) _ (Nat.le_refl _)
  have hval := h.val
  rw [List.take_of_length_le (Nat.le_refl _)] at hval
  have hs := lv_set (takeSt g v u v.length).1 v.length ((u.getD v.length 0 + 4294967296 - (takeSt g v u v.length).2) % 4294967296) (by rw [h.len]; omega)
  rw [h.far _ (Nat.le_refl _)] at hs
  have hk := last_val (u.getD v.length 0) (takeSt g v u v.length).2 (getD_lt hu _) h.owed
  unfold takeRow takeBelow
  rw [pow_succ32]
  simp only [decide_eq_true_eq]
  generalize (if u.getD v.length 0 < (takeSt g v u v.length).2 then 1 else 0) = b at *
  generalize lv ((takeSt g v u v.length).1.set v.length ((u.getD v.length 0 + 4294967296 - (takeSt g v u v.length).2) % 4294967296)) = L' at *
  generalize (u.getD v.length 0 + 4294967296 - (takeSt g v u v.length).2) % 4294967296 = X' at *
  generalize u.getD v.length 0 = x at *
  generalize (takeSt g v u v.length).2 = c at *
  generalize lv (takeSt g v u v.length).1 = L at *
  generalize 2 ^ (32 * v.length) = Q at *
  have e1 : Q * (X' + c) = Q * (x + 4294967296 * b) := by rw [hk]
  rw [Nat.mul_add, Nat.mul_add, ← Nat.mul_assoc Q] at e1
  omega

/-- giving v again. -/
def giveSt (v u : List Nat) : Nat → List Nat × Nat
  | 0 => (u, 0)
  | i + 1 => ((giveSt v u i).1.set i (((giveSt v u i).2 + ((giveSt v u i).1.getD i 0 + v.getD i 0)) % 4294967296), ((giveSt v u i).2 + ((giveSt v u i).1.getD i 0 + v.getD i 0)) / 4294967296)
structure GiveOk (v u : List Nat) (i : Nat) : Prop where
  len : (giveSt v u i).1.length = u.length
  sm : small (giveSt v u i).1
  carry : (giveSt v u i).2 ≤ 1
  far : ∀ t, i ≤ t → (giveSt v u i).1.getD t 0 = u.getD t 0
  val : lv (giveSt v u i).1 + 2 ^ (32 * i) * (giveSt v u i).2 = lv u + lv (v.take i)
theorem give_ok (v u : List Nat) (hv : small v) (hu : small u) (hl : v.length ≤ u.length) : ∀ i, i ≤ v.length → GiveOk v u i
  | 0, _ => ⟨rfl, hu, by simp [giveSt], fun t _ => rfl, by simp [giveSt, lv]⟩
  | i + 1, hi => by
    have h := give_ok v u hv hu hl i (by omega)
    have hx := getD_lt h.sm i
    have hy := getD_lt hv i
    have hc := h.carry
    refine ⟨by simp only [giveSt]; rw [List.length_set, h.len], small_set h.sm _ _ (Nat.mod_lt _ (by decide)), by simp only [giveSt]; omega, fun t ht => ?_, ?_⟩
    · simp only [giveSt]
      rw [getD_set_ne' _ _ _ _ (by omega)]
      exact h.far t (by omega)
    · have hval := h.val
      have hs := lv_set (giveSt v u i).1 i (((giveSt v u i).2 + ((giveSt v u i).1.getD i 0 + v.getD i 0)) % 4294967296) (by rw [h.len]; omega)
      have ht := lv_takeD v i (by omega)
      simp only [giveSt]
      rw [pow_succ32, ht]
      have hk := Nat.div_add_mod ((giveSt v u i).2 + ((giveSt v u i).1.getD i 0 + v.getD i 0)) 4294967296
      generalize lv ((giveSt v u i).1.set i (((giveSt v u i).2 + ((giveSt v u i).1.getD i 0 + v.getD i 0)) % 4294967296)) = L' at *
      generalize ((giveSt v u i).2 + ((giveSt v u i).1.getD i 0 + v.getD i 0)) % 4294967296 = X' at *
      generalize ((giveSt v u i).2 + ((giveSt v u i).1.getD i 0 + v.getD i 0)) / 4294967296 = C' at *
      generalize (giveSt v u i).1.getD i 0 = x at *
      generalize (giveSt v u i).2 = c at *
      generalize lv (giveSt v u i).1 = L at *
      generalize v.getD i 0 = y at *
      generalize lv (v.take i) = T at *
      generalize 2 ^ (32 * i) = Q at *
      have e1 : Q * (4294967296 * C' + X') = Q * (c + (x + y)) := by rw [hk]
      rw [Nat.mul_add, Nat.mul_add, Nat.mul_add, ← Nat.mul_assoc] at e1
      omega
def giveRow (v u : List Nat) : List Nat := (giveSt v u v.length).1.set v.length ((u.getD v.length 0 + (giveSt v u v.length).2) % 4294967296)
theorem giveRow_len (v u : List Nat) (hv : small v) (hu : small u) (hl : v.length ≤ u.length) : (giveRow v u).length = u.length := by
  unfold giveRow
  rw [List.length_set, (give_ok v u hv hu hl _ (Nat.le_refl _)).len]
theorem giveRow_small (v u : List Nat) (hv : small v) (hu : small u) (hl : v.length ≤ u.length) : small (giveRow v u) :=
  small_set (give_ok v u hv hu hl _ (Nat.le_refl _)).sm _ _ (Nat.mod_lt _ (by decide))
theorem giveRow_val (v u : List Nat) (hv : small v) (hu : small u) (hl : u.length = v.length + 1) : lv (giveRow v u) + 2 ^ (32 * (v.length + 1)) * ((u.getD v.length 0 + (giveSt v u v.length).2) / 4294967296) = lv u + lv v := by
  have h := give_ok v u hv hu (by omega) _ (Nat.le_refl _)
  have hval := h.val
  rw [List.take_of_length_le (Nat.le_refl _)] at hval
  have hs := lv_set (giveSt v u v.length).1 v.length ((u.getD v.length 0 + (giveSt v u v.length).2) % 4294967296) (by rw [h.len]; omega)
  rw [h.far _ (Nat.le_refl _)] at hs
  have hk := Nat.div_add_mod (u.getD v.length 0 + (giveSt v u v.length).2) 4294967296
  unfold giveRow
  rw [pow_succ32]
  generalize lv ((giveSt v u v.length).1.set v.length ((u.getD v.length 0 + (giveSt v u v.length).2) % 4294967296)) = L' at *
  generalize (u.getD v.length 0 + (giveSt v u v.length).2) % 4294967296 = X' at *
  generalize (u.getD v.length 0 + (giveSt v u v.length).2) / 4294967296 = C' at *
  generalize u.getD v.length 0 = x at *
  generalize (giveSt v u v.length).2 = c at *
  generalize lv (giveSt v u v.length).1 = L at *
  generalize 2 ^ (32 * v.length) = Q at *
  have e1 : Q * (4294967296 * C' + X') = Q * (x + c) := by rw [hk]
  rw [Nat.mul_add, Nat.mul_add, ← Nat.mul_assoc] at e1
  omega
end Go.Proofs.YtlbbbafehhdpnaaDoor

namespace Go.Proofs.YtlbbbafehhdpnaaDoor
set_option linter.unusedVariables false
set_option linter.unusedSimpArgs false

/-- a guess that is still refused is above the quotient: one less is no less than the quotient. -/
theorem guess_down (U V q W P Ul V2 Vl g v1 v2 u3 rest Top : Nat) (hq : q * V ≤ U) (hU : U = W * P + Ul) (hUl : Ul < P) (hV : V = V2 * P + Vl) (hV2 : V2 = v1 * 4294967296 + v2) (hW : W = Top * 4294967296 + u3)
    (hT : g * v1 + rest = Top) (hqB : q < 4294967296) (hg : 4294967296 ≤ g ∨ rest * 4294967296 + u3 < g * v2) : q < g := by
  rcases hg with h | h
  · omega
  · refine Nat.lt_of_not_le fun hle => ?_
    have h1 : W + 1 ≤ g * V2 := by
      rw [hV2, hW, ← hT, Nat.mul_add, ← Nat.mul_assoc, Nat.add_mul]
      omega
    have h2 : (W + 1) * P ≤ g * V2 * P := Nat.mul_le_mul_right _ h1
    have h3 : g * V ≤ q * V := Nat.mul_le_mul_right _ hle
    rw [hV, Nat.mul_add, ← Nat.mul_assoc] at h3
    rw [Nat.add_mul, Nat.one_mul] at h2
    rw [hV] at hq
    generalize q * (V2 * P + Vl) = qV at *
    generalize g * V2 * P = gVP at *
    generalize g * Vl = gVl at *
    generalize W * P = WP at *
    omega
/-- a guess that is let stand is at most one above the quotient. -/
theorem guess_near (U V q W P Ul V2 Vl g v1 v2 u3 rest Top : Nat) (hq : U < (q + 1) * V) (hU : U = W * P + Ul) (hVl : Vl < P) (hV : V = V2 * P + Vl) (hV2 : V2 = v1 * 4294967296 + v2) (hW : W = Top * 4294967296 + u3)
    (hT : g * v1 + rest = Top) (hv1 : 1 ≤ v1) (hgB : g < 4294967296) (hg : g * v2 ≤ rest * 4294967296 + u3) : g ≤ q + 1 := by
  refine Nat.le_of_not_lt fun hlt => ?_
  obtain ⟨h, rfl⟩ : ∃ h, g = h + 1 := ⟨g - 1, by omega⟩
  have h1 : (h + 1) * V2 ≤ W := by
    rw [hV2, hW, ← hT, Nat.mul_add, ← Nat.mul_assoc, Nat.add_mul ((h + 1) * v1)]
    omega
  have h2 : (h + 1) * V2 * P ≤ W * P := Nat.mul_le_mul_right _ h1
  have h3 : (q + 1) * V ≤ h * V := Nat.mul_le_mul_right _ (by omega)
  have h4 : h * V = h * V2 * P + h * Vl := by rw [hV, Nat.mul_add, Nat.mul_assoc]
  have h5 : h * Vl ≤ h * P := Nat.mul_le_mul_left _ (by omega)
  have h6 : (h + 1) * V2 * P = h * V2 * P + V2 * P := by rw [Nat.add_mul, Nat.add_mul, Nat.one_mul]
  have h7 : h * P ≤ V2 * P := Nat.mul_le_mul_right _ (by rw [hV2]; have := Nat.mul_le_mul_right 4294967296 hv1; omega)
  omega
/-- a break (the rest is no limb any more) lets the guess stand. -/
theorem guess_break (g v2 u3 rest : Nat) (hg : g < 4294967296) (hv2 : v2 < 4294967296) (hr : 4294967296 ≤ rest) : g * v2 ≤ rest * 4294967296 + u3 := by
  have h1 : g * v2 ≤ 4294967296 * 4294967296 := Nat.mul_le_mul (by omega) (by omega)
  have h2 : 4294967296 * 4294967296 ≤ rest * 4294967296 := Nat.mul_le_mul_right _ hr
  omega
/-- the first guess. -/
theorem guess_first (u1 u2 v1 : Nat) (h1 : u1 ≤ v1) (h2 : u2 < 4294967296) (hv : 2147483648 ≤ v1) : (u1 * 4294967296 + u2) / v1 ≤ 4294967297 := by
  refine Nat.le_of_lt_succ ((Nat.div_lt_iff_lt_mul (by omega)).2 ?_)
  have : u1 * 4294967296 ≤ v1 * 4294967296 := Nat.mul_le_mul_right _ h1
  omega
theorem first_above (U V q Top P Ul Vl v1 : Nat) (hq : q * V ≤ U) (hU : U = Top * P + Ul) (hUl : Ul < P) (hV : V = v1 * P + Vl) (hv : 1 ≤ v1) : q ≤ Top / v1 := by
  rw [Nat.le_div_iff_mul_le (by omega)]
  refine Nat.le_of_not_lt fun hlt => ?_
  have h1 : (Top + 1) * P ≤ q * v1 * P := Nat.mul_le_mul_right _ hlt
  rw [hV, Nat.mul_add, ← Nat.mul_assoc] at hq
  rw [Nat.add_mul, Nat.one_mul] at h1
  omega
/-- behind take and give: the quotient and the rest. -/
theorem quot_of (U V g q L B : Nat) (b : Nat) (hV : 0 < V) (hq : q = U / V) (h1 : q ≤ g) (h2 : g ≤ q + 1) (hB : U < B) (hL : L < B) (hv : L + g * V = U + B * b) (hb : b ≤ 1) : (b = 0 → g = q ∧ L = U % V) ∧ (b = 1 → g = q + 1 ∧ L + V = U % V + B) := by
  have hdm := Nat.div_add_mod U V
  have hlt := Nat.mod_lt U hV
  rw [← hq, Nat.mul_comm] at hdm
  have hcase : g = q ∨ g = q + 1 := by omega
  constructor
  · rintro rfl
    rcases hcase with rfl | rfl
    · exact ⟨rfl, by omega⟩
    · rw [Nat.add_mul, Nat.one_mul] at hv; omega
  · rintro rfl
    rcases hcase with rfl | rfl
    · omega
    · rw [Nat.add_mul, Nat.one_mul] at hv; exact ⟨rfl, by omega⟩

/-- N in k limbs. -/
def digs : Nat → Nat → List Nat
  | 0, _ => []
  | k + 1, N => N % 4294967296 :: digs k (N / 4294967296)
theorem digs_len (k N : Nat) : (digs k N).length = k := by
  induction k generalizing N with
  | zero => rfl
  | succ k ih => simp only [digs, List.length_cons, ih]
theorem digs_small (k N : Nat) : small (digs k N) := by
  induction k generalizing N with
  | zero => exact small_nil
  | succ k ih => exact small_cons.2 ⟨Nat.mod_lt _ (by decide), ih _⟩
theorem digs_lv (l : List Nat) (h : small l) : digs l.length (lv l) = l := by
  induction l with
  | nil => rfl
  | cons a l ih =>
    obtain ⟨h1, h2⟩ := small_cons.1 h
    simp only [List.length_cons, digs, lv]
    rw [show (a + 4294967296 * lv l) / 4294967296 = lv l by omega, ih h2, show (a + 4294967296 * lv l) % 4294967296 = a by omega]
theorem lv_digs (k N : Nat) (h : N < 2 ^ (32 * k)) : lv (digs k N) = N := by
  induction k generalizing N with
  | zero => simp at h; subst h; rfl
  | succ k ih =>
    rw [pow_succ32] at h
    simp only [digs, lv]
    rw [ih _ ((Nat.div_lt_iff_lt_mul (by decide)).2 h)]
    omega
/-- two rows of the same length and number are one. -/
theorem lv_inj {l m : List Nat} (hl : small l) (hm : small m) (h : l.length = m.length) (hv : lv l = lv m) : l = m := by
  rw [← digs_lv l hl, ← digs_lv m hm, h, hv]

/-- the window of n + 1 limbs at j, and a row put in its place. -/
def win (u : List Nat) (j n : Nat) : List Nat := (u.drop j).take (n + 1)
def putWin (u : List Nat) (j : Nat) (x : List Nat) : List Nat := u.take j ++ x ++ u.drop (j + x.length)
theorem win_len (u : List Nat) (j n : Nat) (h : j + n + 1 ≤ u.length) : (win u j n).length = n + 1 := by
  simp only [win, List.length_take, List.length_drop]; omega
theorem win_small {u : List Nat} (h : small u) (j n : Nat) : small (win u j n) := small_take (small_drop h j) _
theorem putWin_len (u : List Nat) (j : Nat) (x : List Nat) (h : j + x.length ≤ u.length) : (putWin u j x).length = u.length := by
  simp only [putWin, List.length_append, List.length_take, List.length_drop]; omega
theorem putWin_small {u x : List Nat} (hu : small u) (hx : small x) (j : Nat) : small (putWin u j x) :=
  small_append.2 ⟨small_append.2 ⟨small_take hu _, hx⟩, small_drop hu _⟩
theorem putWin_drop (u : List Nat) (j : Nat) (x : List Nat) (h : j + x.length ≤ u.length) : (putWin u j x).drop j = x ++ u.drop (j + x.length) := by
  unfold putWin
  rw [List.append_assoc, List.drop_append_of_le_length (by rw [List.length_take]; omega)]
  rw [List.drop_of_length_le (by rw [List.length_take]; omega), List.nil_append]
theorem putWin_take (u : List Nat) (j : Nat) (x : List Nat) (h : j ≤ u.length) : (putWin u j x).take j = u.take j := by
  unfold putWin
  rw [List.append_assoc, List.take_append_of_le_length (by rw [List.length_take]; omega), List.take_take]
  congr 1; omega
theorem lv_win (u : List Nat) (j n : Nat) (h : j + n + 1 ≤ u.length) : lv (u.drop j) = lv (win u j n) + 2 ^ (32 * (n + 1)) * lv (u.drop (j + (n + 1))) := by
  have h1 : u.drop j = win u j n ++ u.drop (j + (n + 1)) := by
    rw [win, ← List.drop_drop, List.take_append_drop]
  have h2 := congrArg lv h1
  rw [lv_append, win_len u j n h] at h2
  exact h2

/-- the long division behind k limbs of the quotient, from the top: the row and the quotient's row. -/
def longSt (u v : List Nat) (m : Nat) : Nat → List Nat × List Nat
  | 0 => (u, List.replicate m 0)
  | k + 1 => (putWin (longSt u v m k).1 (m - (k + 1)) (digs (v.length + 1) (lv (win (longSt u v m k).1 (m - (k + 1)) v.length) % lv v)), (longSt u v m k).2.set (m - (k + 1)) (lv (win (longSt u v m k).1 (m - (k + 1)) v.length) / lv v))
structure LongOk (u v : List Nat) (m k : Nat) : Prop where
  len : (longSt u v m k).1.length = u.length
  qlen : (longSt u v m k).2.length = m
  sm : small (longSt u v m k).1
  qsm : small (longSt u v m k).2
  top : lv ((longSt u v m k).1.drop (m - k)) < lv v
  low : ∀ t, t < m - k → (longSt u v m k).2.getD t 0 = 0
  val : lv (longSt u v m k).1 + lv (longSt u v m k).2 * lv v = lv u
theorem drop_cons (l : List Nat) (j : Nat) (h : j < l.length) : lv (l.drop j) = l.getD j 0 + 4294967296 * lv (l.drop (j + 1)) := by
  rw [List.drop_eq_getElem_cons h]
  simp only [lv]
  rw [List.getD_eq_getElem?_getD, List.getElem?_eq_getElem h]
  rfl
theorem high_zero (l : List Nat) (hs : small l) (j n : Nat) (h : lv (l.drop j) < 2 ^ (32 * n)) (hl : j + n ≤ l.length) : lv (l.drop (j + n)) = 0 := by
  have h1 : l.drop j = (l.drop j).take n ++ l.drop (j + n) := by
    rw [← List.drop_drop, List.take_append_drop]
  have h2 := congrArg lv h1
  rw [lv_append, List.length_take, List.length_drop, Nat.min_eq_left (by omega)] at h2
  rcases Nat.eq_zero_or_pos (lv (l.drop (j + n))) with h0 | h0
  · exact h0
  · have : 2 ^ (32 * n) * 1 ≤ 2 ^ (32 * n) * lv (l.drop (j + n)) := Nat.mul_le_mul_left _ h0
    omega
/-- the window is below the divisor times the base; what lies above it is nought. -/
theorem win_lt (u v : List Nat) (hv : small v) (m k : Nat) (hk : k < m) (h : LongOk u v m k) (hl : u.length = m + v.length) : lv (win (longSt u v m k).1 (m - (k + 1)) v.length) < lv v * 4294967296 ∧ lv ((longSt u v m k).1.drop (m - (k + 1) + (v.length + 1))) = 0 ∧ lv ((longSt u v m k).1.drop (m - (k + 1))) = lv (win (longSt u v m k).1 (m - (k + 1)) v.length) := by
  have htop := h.top
  have hlen := h.len
  have hsm := h.sm
  obtain ⟨j, hj⟩ : ∃ j, m - (k + 1) = j := ⟨_, rfl⟩
  rw [show m - k = j + 1 by omega] at htop
  rw [hj]
  have h1 := drop_cons (longSt u v m k).1 j (by omega)
  have h2 := getD_lt hsm j
  have h3 := high_zero (longSt u v m k).1 hsm (j + 1) v.length (Nat.lt_trans htop (lv_lt v hv)) (by omega)
  have h4 := lv_win (longSt u v m k).1 j v.length (by omega)
  rw [show j + 1 + v.length = j + (v.length + 1) by omega] at h3
  rw [h3, Nat.mul_zero, Nat.add_zero] at h4
  refine ⟨?_, h3, h4⟩
  rw [← h4, h1]
  omega
theorem long_ok (u v : List Nat) (hu : small u) (hv : small v) (hV : 0 < lv v) (m : Nat) (hl : u.length = m + v.length) (h0 : lv (u.drop m) < lv v) : ∀ k, k ≤ m → LongOk u v m k
  | 0, _ => ⟨rfl, by simp [longSt], hu, by simp only [longSt]; exact small_zeros _, by simpa [longSt] using h0, fun t _ => by simp only [longSt]; exact rep_getD0 _ _, by simp [longSt, lv_zeros]⟩
  | k + 1, hk => by
    have h := long_ok u v hu hv hV m hl h0 k (by omega)
    obtain ⟨hw1, hw2, hw3⟩ := win_lt u v hv m k (by omega) h hl
    have hlen := h.len
    have hqlen := h.qlen
    have hval := h.val
    have hlow := h.low (m - (k + 1)) (by omega)
    obtain ⟨j, hj⟩ : ∃ j, m - (k + 1) = j := ⟨_, rfl⟩
    rw [hj] at hw1 hw2 hw3 hlow
    have hR : lv (win (longSt u v m k).1 j v.length) % lv v < lv v := Nat.mod_lt _ hV
    have hRb : lv (win (longSt u v m k).1 j v.length) % lv v < 2 ^ (32 * (v.length + 1)) := by
      have := lv_lt v hv
      rw [pow_succ32]
      omega
    have hdl := digs_len (v.length + 1) (lv (win (longSt u v m k).1 j v.length) % lv v)
    have hdv := lv_digs _ _ hRb
    have hq : lv (win (longSt u v m k).1 j v.length) / lv v < 4294967296 := by
      rw [Nat.div_lt_iff_lt_mul hV, Nat.mul_comm]; exact hw1
    have hpd := putWin_drop (longSt u v m k).1 j (digs (v.length + 1) (lv (win (longSt u v m k).1 j v.length) % lv v)) (by omega)
    have hpt := putWin_take (longSt u v m k).1 j (digs (v.length + 1) (lv (win (longSt u v m k).1 j v.length) % lv v)) (by omega)
    have hpl := putWin_len (longSt u v m k).1 j (digs (v.length + 1) (lv (win (longSt u v m k).1 j v.length) % lv v)) (by omega)
    have hdrop : lv ((putWin (longSt u v m k).1 j (digs (v.length + 1) (lv (win (longSt u v m k).1 j v.length) % lv v))).drop j) = lv (win (longSt u v m k).1 j v.length) % lv v := by
      rw [hpd, lv_append, hdl, hw2, Nat.mul_zero, Nat.add_zero, hdv]
    have hs := lv_set (longSt u v m k).2 j (lv (win (longSt u v m k).1 j v.length) / lv v) (by omega)
    rw [hlow, Nat.mul_zero, Nat.add_zero] at hs
    refine ⟨?_, ?_, ?_, ?_, ?_, fun t ht => ?_, ?_⟩ <;> simp only [longSt, hj]
    · omega
    · rw [List.length_set, hqlen]
    · exact putWin_small h.sm (digs_small _ _) _
    · exact small_set h.qsm _ _ hq
    · rw [hdrop]; exact hR
    · rw [getD_set_ne' _ _ _ _ (by omega)]
      exact h.low t (by omega)
    · have e1 : lv (putWin (longSt u v m k).1 j (digs (v.length + 1) (lv (win (longSt u v m k).1 j v.length) % lv v))) = lv ((longSt u v m k).1.take j) + 2 ^ (32 * j) * (lv (win (longSt u v m k).1 j v.length) % lv v) := by
        have e := congrArg lv (List.take_append_drop j (putWin (longSt u v m k).1 j (digs (v.length + 1) (lv (win (longSt u v m k).1 j v.length) % lv v))))
        rw [lv_append, hdrop, hpt, List.length_take, Nat.min_eq_left (by omega)] at e
        exact e.symm
      have e2 : lv (longSt u v m k).1 = lv ((longSt u v m k).1.take j) + 2 ^ (32 * j) * lv (win (longSt u v m k).1 j v.length) := by
        have e := congrArg lv (List.take_append_drop j (longSt u v m k).1)
        rw [lv_append, hw3, List.length_take, Nat.min_eq_left (by omega)] at e
        exact e.symm
      rw [e1, hs]
      rw [e2] at hval
      have hdm := Nat.div_add_mod (lv (win (longSt u v m k).1 j v.length)) (lv v)
      generalize lv (win (longSt u v m k).1 j v.length) / lv v = Q at *
      generalize lv (win (longSt u v m k).1 j v.length) % lv v = R at *
      generalize lv (win (longSt u v m k).1 j v.length) = W at *
      generalize 2 ^ (32 * j) = P at *
      rw [← hval, ← hdm, Nat.mul_add, Nat.add_mul, Nat.mul_comm (lv v) Q, Nat.mul_assoc P]
      omega
/-- the whole: quotient and rest. -/
theorem long_val (u v : List Nat) (hu : small u) (hv : small v) (hV : 0 < lv v) (m : Nat) (hl : u.length = m + v.length) (h0 : lv (u.drop m) < lv v) : lv (longSt u v m m).2 = lv u / lv v ∧ lv (longSt u v m m).1 = lv u % lv v := by
  have h := long_ok u v hu hv hV m hl h0 m (Nat.le_refl _)
  have hval := h.val
  have htop := h.top
  rw [Nat.sub_self, List.drop_zero] at htop
  rw [← hval]
  constructor
  · rw [Nat.add_mul_div_right _ _ hV, Nat.div_eq_of_lt htop, Nat.zero_add]
  · rw [Nat.add_mul_mod_self_right, Nat.mod_eq_of_lt htop]
/-- the rest fits in the divisor's limbs. -/
theorem long_rest (u v : List Nat) (hu : small u) (hv : small v) (hV : 0 < lv v) (m : Nat) (hl : u.length = m + v.length) (h0 : lv (u.drop m) < lv v) : lv ((longSt u v m m).1.take v.length) = lv u % lv v := by
  have h := long_ok u v hu hv hV m hl h0 m (Nat.le_refl _)
  have hlen := h.len
  have htop := h.top
  rw [Nat.sub_self, List.drop_zero] at htop
  have h3 := high_zero (longSt u v m m).1 h.sm 0 v.length (by rw [List.drop_zero]; exact Nat.lt_trans htop (lv_lt v hv)) (by omega)
  rw [Nat.zero_add] at h3
  have e := congrArg lv (List.take_append_drop v.length (longSt u v m m).1)
  rw [lv_append, h3, Nat.mul_zero, Nat.add_zero] at e
  rw [e, (long_val u v hu hv hV m hl h0).2]
end Go.Proofs.YtlbbbafehhdpnaaDoor

namespace Go.Proofs.YtlbbbafehhdpnaaDoor
set_option linter.unusedVariables false
set_option linter.unusedSimpArgs false

theorem lv_top1 (l : List Nat) (hs : small l) (k : Nat) (h : l.length = k + 1) : lv l = l.getD k 0 * 2 ^ (32 * k) + lv (l.take k) ∧ lv (l.take k) < 2 ^ (32 * k) := by
  have h1 := lv_takeD l k (by omega)
  rw [List.take_of_length_le (by omega)] at h1
  have h2 := lv_lt (l.take k) (small_take hs k)
  rw [List.length_take, Nat.min_eq_left (by omega)] at h2
  refine ⟨?_, h2⟩
  rw [h1, Nat.mul_comm (l.getD k 0)]
  omega
theorem lv_top2 (l : List Nat) (hs : small l) (k : Nat) (h : l.length = k + 2) : lv l = (l.getD (k + 1) 0 * 4294967296 + l.getD k 0) * 2 ^ (32 * k) + lv (l.take k) ∧ lv (l.take k) < 2 ^ (32 * k) := by
  have h1 := (lv_top1 l hs (k + 1) h).1
  have h2 := lv_takeD l k (by omega)
  have h3 := lv_lt (l.take k) (small_take hs k)
  rw [List.length_take, Nat.min_eq_left (by omega)] at h3
  refine ⟨?_, h3⟩
  rw [h1, h2, pow_succ32, Nat.add_mul, Nat.mul_assoc, Nat.mul_comm 4294967296, Nat.mul_comm (l.getD k 0)]
  omega
theorem top3_aux (T P c t : Nat) : T * (P * 4294967296) + (t + P * c) = (T * 4294967296 + c) * P + t := by
  have e : T * (P * 4294967296) = T * 4294967296 * P := by rw [Nat.mul_assoc, Nat.mul_comm P]
  have e2 : (T * 4294967296 + c) * P = T * 4294967296 * P + c * P := Nat.add_mul _ _ _
  have e3 : P * c = c * P := Nat.mul_comm _ _
  omega
theorem lv_top3 (l : List Nat) (hs : small l) (k : Nat) (h : l.length = k + 3) : lv l = ((l.getD (k + 2) 0 * 4294967296 + l.getD (k + 1) 0) * 4294967296 + l.getD k 0) * 2 ^ (32 * k) + lv (l.take k) ∧ lv (l.take k) < 2 ^ (32 * k) := by
  have h1 := (lv_top2 l hs (k + 1) h).1
  have h2 := lv_takeD l k (by omega)
  have h3 := lv_lt (l.take k) (small_take hs k)
  rw [List.length_take, Nat.min_eq_left (by omega)] at h3
  refine ⟨?_, h3⟩
  rw [show k + 1 + 1 = k + 2 from rfl] at h1
  have e := top3_aux (l.getD (k + 2) 0 * 4294967296 + l.getD (k + 1) 0) (2 ^ (32 * k)) (l.getD k 0) (lv (l.take k))
  rw [← pow_succ32, ← h2, ← h1] at e
  exact e
/-- the guess's invariant: window U of k + 3 limbs, divisor V of k + 2. -/
structure GInv (U V : List Nat) (k g rest : Nat) : Prop where
  top : g * V.getD (k + 1) 0 + rest = U.getD (k + 2) 0 * 4294967296 + U.getD (k + 1) 0
  above : lv U / lv V ≤ g
  small : g ≤ 4294967297
theorem GInv.first {U V : List Nat} {k : Nat} (hU : Go.Proofs.YtlbbbafehhdpnaaDoor.small U) (hV : Go.Proofs.YtlbbbafehhdpnaaDoor.small V) (hl : U.length = k + 3) (hl2 : V.length = k + 2) (hv : 2147483648 ≤ V.getD (k + 1) 0) (hle : U.getD (k + 2) 0 ≤ V.getD (k + 1) 0) :
    GInv U V k ((U.getD (k + 2) 0 * 4294967296 + U.getD (k + 1) 0) / V.getD (k + 1) 0) ((U.getD (k + 2) 0 * 4294967296 + U.getD (k + 1) 0) % V.getD (k + 1) 0) := by
  obtain ⟨h1, h2⟩ := lv_top2 U hU (k + 1) hl
  obtain ⟨h3, h4⟩ := lv_top1 V hV (k + 1) hl2
  refine ⟨by rw [Nat.mul_comm]; exact Nat.div_add_mod _ _, ?_, guess_first _ _ _ hle (getD_lt hU _) hv⟩
  exact first_above (lv U) (lv V) _ _ _ _ _ _ (Nat.div_mul_le_self _ _) h1 h2 h3 (by omega)
theorem GInv.down {U V : List Nat} {k g rest : Nat} (h : GInv U V k g rest) (hU : Go.Proofs.YtlbbbafehhdpnaaDoor.small U) (hV : Go.Proofs.YtlbbbafehhdpnaaDoor.small V) (hl : U.length = k + 3) (hl2 : V.length = k + 2) (hq : lv U / lv V < 4294967296)
    (hg : 4294967296 ≤ g ∨ rest * 4294967296 + U.getD k 0 < g * V.getD k 0) : 0 < g ∧ GInv U V k (g - 1) (rest + V.getD (k + 1) 0) := by
  obtain ⟨h1, h2⟩ := lv_top3 U hU k hl
  obtain ⟨h3, h4⟩ := lv_top2 V hV k hl2
  have hd := guess_down (lv U) (lv V) (lv U / lv V) _ _ _ _ _ g _ _ _ rest _ (Nat.div_mul_le_self _ _) h1 h2 h3 rfl rfl h.top hq hg
  have hg0 : 0 < g := Nat.lt_of_le_of_lt (Nat.zero_le _) hd
  obtain ⟨p, rfl⟩ : ∃ p, g = p + 1 := ⟨g - 1, by omega⟩
  have ht := h.top
  have hs := h.small
  rw [Nat.add_mul, Nat.one_mul] at ht
  have hd' := Nat.le_of_lt_succ hd
  refine ⟨Nat.succ_pos p, ?_, hd', by rw [Nat.add_sub_cancel]; omega⟩
  rw [Nat.add_sub_cancel]
  omega
theorem GInv.near {U V : List Nat} {k g rest : Nat} (h : GInv U V k g rest) (hU : Go.Proofs.YtlbbbafehhdpnaaDoor.small U) (hV : Go.Proofs.YtlbbbafehhdpnaaDoor.small V) (hl : U.length = k + 3) (hl2 : V.length = k + 2) (hv : 1 ≤ V.getD (k + 1) 0) (hgB : g < 4294967296)
    (hg : g * V.getD k 0 ≤ rest * 4294967296 + U.getD k 0) : g ≤ lv U / lv V + 1 := by
  obtain ⟨h1, h2⟩ := lv_top3 U hU k hl
  obtain ⟨h3, h4⟩ := lv_top2 V hV k hl2
  have hVp : 0 < lv V := by
    rw [h3]
    have : 0 < (V.getD (k + 1) 0 * 4294967296 + V.getD k 0) * 2 ^ (32 * k) := Nat.mul_pos (by omega) (Nat.pow_pos (by decide))
    omega
  exact guess_near (lv U) (lv V) (lv U / lv V) _ _ _ _ _ g _ _ _ rest _ (by rw [Nat.mul_comm]; exact Nat.lt_mul_div_succ _ hVp) h1 h4 h3 rfl rfl h.top hv hgB hg
end Go.Proofs.YtlbbbafehhdpnaaDoor

namespace Go.Proofs.YtlbbbafehhdpnaaDoor
set_option linter.unusedVariables false
set_option linter.unusedSimpArgs false

theorem step_ok (U V : List Nat) (g : Nat) (hU : small U) (hV : small V) (hl : U.length = V.length + 1) (hVp : 0 < lv V) (hg : g < 4294967296) (h1 : lv U / lv V ≤ g) (h2 : g ≤ lv U / lv V + 1) :
    (takeBelow g V U = false → g = lv U / lv V ∧ takeRow g V U = digs (V.length + 1) (lv U % lv V)) ∧ (takeBelow g V U = true → g = lv U / lv V + 1 ∧ giveRow V (takeRow g V U) = digs (V.length + 1) (lv U % lv V)) := by
  have hv := takeRow_val g V U hg hV hU hl
  have htl := takeRow_len g V U hg hV hU (by omega)
  have hts := takeRow_small g V U hg hV hU (by omega)
  have hB := lv_lt U hU
  have hL := lv_lt _ hts
  rw [htl, hl] at hL
  rw [hl] at hB
  have hR : lv U % lv V < 2 ^ (32 * (V.length + 1)) := Nat.lt_of_le_of_lt (Nat.mod_le _ _) hB
  have hq := quot_of (lv U) (lv V) g _ (lv (takeRow g V U)) _ (if takeBelow g V U = true then 1 else 0) hVp rfl h1 h2 hB hL hv (by split <;> omega)
  constructor
  · intro hb
    obtain ⟨q1, q2⟩ := hq.1 (by rw [hb]; rfl)
    exact ⟨q1, lv_inj hts (digs_small _ _) (by rw [digs_len, htl, hl]) (by rw [lv_digs _ _ hR, q2])⟩
  · intro hb
    obtain ⟨q1, q2⟩ := hq.2 (by rw [hb]; rfl)
    refine ⟨q1, lv_inj (giveRow_small V _ hV hts (by omega)) (digs_small _ _) (by rw [digs_len, giveRow_len V _ hV hts (by omega), htl, hl]) ?_⟩
    have hgv := giveRow_val V (takeRow g V U) hV hts (by omega)
    have hgb := lv_lt _ (giveRow_small V _ hV hts (by omega))
    rw [giveRow_len V _ hV hts (by omega), htl, hl] at hgb
    rw [lv_digs _ _ hR]
    rw [q2] at hgv
    generalize lv (giveRow V (takeRow g V U)) = G at *
    generalize ((takeRow g V U).getD V.length 0 + (giveSt V (takeRow g V U) V.length).2) / 4294967296 = c at *
    generalize 2 ^ (32 * (V.length + 1)) = B at *
    generalize lv U % lv V = R at *
    have e := congrArg (· % B) hgv
    simpa [Nat.add_mul_mod_self_left, Nat.mod_eq_of_lt hgb, Nat.mod_eq_of_lt hR] using e
end Go.Proofs.YtlbbbafehhdpnaaDoor
