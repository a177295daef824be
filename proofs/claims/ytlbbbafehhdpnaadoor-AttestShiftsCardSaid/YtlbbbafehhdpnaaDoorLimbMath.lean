/- Naturals as lists of 32-bit limbs. No program in sight. -/
import Derived.Laws.BitsAllLaws
namespace Go.Proofs.YtlbbbafehhdpnaaDoor

def lv : List Nat → Nat
  | [] => 0
  | a :: l => a + 4294967296 * lv l
def limbs (N : Nat) : List Nat := if N = 0 then [] else N % 4294967296 :: limbs (N / 4294967296)
termination_by N
decreasing_by omega

theorem limbs_zero : limbs 0 = [] := by rw [limbs]; simp
theorem limbs_pos (N : Nat) (h : N ≠ 0) : limbs N = N % 4294967296 :: limbs (N / 4294967296) := by rw [limbs, if_neg h]

def small (l : List Nat) : Prop := ∀ x ∈ l, x < 4294967296
theorem small_nil : small [] := fun x h => by cases h
theorem small_cons {a : Nat} {l : List Nat} : small (a :: l) ↔ a < 4294967296 ∧ small l := by simp [small]
theorem small_append {a b : List Nat} : small (a ++ b) ↔ small a ∧ small b := by
  constructor
  · intro h; exact ⟨fun x hx => h x (by simp [hx]), fun x hx => h x (by simp [hx])⟩
  · rintro ⟨h1, h2⟩ x hx
    rcases List.mem_append.1 hx with hx | hx
    · exact h1 x hx
    · exact h2 x hx
theorem small_take {l : List Nat} (h : small l) (k : Nat) : small (l.take k) := fun x hx => h x (List.mem_of_mem_take hx)
theorem small_drop {l : List Nat} (h : small l) (k : Nat) : small (l.drop k) := fun x hx => h x (List.mem_of_mem_drop hx)

theorem lv_limbs (N : Nat) : lv (limbs N) = N := by
  induction N using Nat.strongRecOn with
  | _ N ih =>
    by_cases h : N = 0
    · subst h; rw [limbs_zero]; rfl
    · rw [limbs_pos N h]
      simp only [lv]
      rw [ih _ (by omega)]
      omega
theorem limbs_small (N : Nat) : small (limbs N) := by
  induction N using Nat.strongRecOn with
  | _ N ih =>
    by_cases h : N = 0
    · subst h; rw [limbs_zero]; exact small_nil
    · rw [limbs_pos N h]
      exact small_cons.2 ⟨Nat.mod_lt _ (by decide), ih _ (by omega)⟩

theorem lv_append (a b : List Nat) : lv (a ++ b) = lv a + 2 ^ (32 * a.length) * lv b := by
  induction a with
  | nil => simp [lv]
  | cons x a ih =>
    simp only [List.cons_append, lv, ih, List.length_cons]
    rw [Nat.mul_add 32, Nat.pow_add, Nat.mul_add, ← Nat.add_assoc, ← Nat.mul_assoc, Nat.mul_comm (2 ^ (32 * a.length))]
theorem lv_lt (l : List Nat) (h : small l) : lv l < 2 ^ (32 * l.length) := by
  induction l with
  | nil => simp [lv]
  | cons x l ih =>
    obtain ⟨h1, h2⟩ := small_cons.1 h
    have := ih h2
    simp only [lv, List.length_cons]
    rw [Nat.mul_add 32, Nat.pow_add]
    have e : 2 ^ (32 * 1) = 4294967296 := by decide
    rw [e]
    generalize 2 ^ (32 * l.length) = p at *
    have : 4294967296 * (lv l + 1) ≤ 4294967296 * p := Nat.mul_le_mul_left _ (by omega)
    omega

/-- a list without noughts at its end is the one of its number -/
theorem limbs_lv (l : List Nat) (h : small l) (hc : ∀ (hl : l ≠ []), l.getLast hl ≠ 0) : limbs (lv l) = l := by
  induction l with
  | nil => exact limbs_zero
  | cons a l ih =>
    obtain ⟨h1, h2⟩ := small_cons.1 h
    have ih' := ih h2 fun hl => by
      have := hc (by simp)
      rwa [List.getLast_cons hl] at this
    by_cases hz : lv (a :: l) = 0
    · exfalso
      simp only [lv] at hz
      have ha : a = 0 := by omega
      have hl0 : lv l = 0 := by omega
      rw [hl0, limbs_zero] at ih'
      subst ih'
      exact hc (by simp) (by simpa using ha)
    · rw [limbs_pos _ hz]
      simp only [lv]
      have e1 : (a + 4294967296 * lv l) % 4294967296 = a := by omega
      have e2 : (a + 4294967296 * lv l) / 4294967296 = lv l := by omega
      rw [e1, e2, ih']

theorem limbs_length_le (l : List Nat) (h : small l) : (limbs (lv l)).length ≤ l.length := by
  induction l with
  | nil => rw [lv, limbs_zero]; simp
  | cons a l ih =>
    obtain ⟨h1, h2⟩ := small_cons.1 h
    have := ih h2
    by_cases hz : lv (a :: l) = 0
    · rw [hz, limbs_zero]; simp
    · rw [limbs_pos _ hz]
      simp only [lv]
      have e2 : (a + 4294967296 * lv l) / 4294967296 = lv l := by omega
      rw [e2]
      simpa using this

theorem lv_take_succ (l : List Nat) (k : Nat) (h : k < l.length) : lv (l.take (k + 1)) = lv (l.take k) + 2 ^ (32 * k) * l[k] := by
  rw [List.take_succ_eq_append_getElem h, lv_append]
  simp only [lv, List.length_take, Nat.min_eq_left (Nat.le_of_lt h), Nat.mul_zero, Nat.add_zero]
theorem lv_zeros (n : Nat) : lv (List.replicate n 0) = 0 := by
  induction n with
  | zero => rfl
  | succ n ih => simp [List.replicate_succ, lv, ih]
theorem small_zeros (n : Nat) : small (List.replicate n 0) := fun x hx => by rw [(List.mem_replicate.1 hx).2]; decide

/-- the limbs of a number, one by one -/
theorem lv_of_digits (l : List Nat) (W : Nat) (h : ∀ i (hi : i < l.length), l[i] = W / 2 ^ (32 * i) % 4294967296) : lv l = W % 2 ^ (32 * l.length) := by
  induction l generalizing W with
  | nil => simp [lv, Nat.mod_one]
  | cons a l ih =>
    have h0 : a = W % 4294967296 := by
      have := h 0 (by simp)
      rw [List.getElem_cons_zero] at this
      rw [this]; simp
    have ih' := ih (W / 4294967296) fun i hi => by
      have := h (i + 1) (by simpa using hi)
      rw [List.getElem_cons_succ] at this
      rw [this, Nat.mul_add 32, Nat.pow_add, Nat.div_div_eq_div_mul, Nat.mul_comm (2 ^ (32 * i))]
    simp only [lv, ih', List.length_cons]
    rw [Nat.mul_add 32, Nat.add_comm (32 * l.length), Nat.pow_add]
    have e : 2 ^ (32 * 1) = 4294967296 := by decide
    rw [e, Nat.mod_mul, h0]

/-- one limb of a shift to the right -/
theorem shr_limb (V i s : Nat) (hs : s < 32) : (V / 2 ^ (32 * i) % 18446744073709551616 / 2 ^ s) % 4294967296 = V / 2 ^ s / 2 ^ (32 * i) % 4294967296 := by
  rw [Nat.div_div_eq_div_mul V, Nat.mul_comm (2 ^ s), ← Nat.div_div_eq_div_mul]
  generalize V / 2 ^ (32 * i) = X
  have e : (18446744073709551616 : Nat) = 2 ^ s * 2 ^ (64 - s) := by
    rw [← Nat.pow_add]
    have : s + (64 - s) = 64 := by omega
    rw [this]
  rw [e, Nat.mod_mul_right_div_self]
  have e2 : (2 : Nat) ^ (64 - s) = 4294967296 * 2 ^ (32 - s) := by
    have : (4294967296 : Nat) = 2 ^ 32 := by decide
    rw [this, ← Nat.pow_add]
    congr 1; omega
  rw [e2, Nat.mod_mul_right_mod]
theorem lv_drop (l : List Nat) (k : Nat) (h : small l) (hk : k ≤ l.length) : lv (l.drop k) = lv l / 2 ^ (32 * k) := by
  have h1 := lv_append (l.take k) (l.drop k)
  rw [List.take_append_drop] at h1
  have h2 := lv_lt _ (small_take h k)
  rw [List.length_take, Nat.min_eq_left hk] at h1 h2
  rw [h1, Nat.add_mul_div_left _ _ (Nat.pow_pos (by omega)), Nat.div_eq_of_lt h2, Nat.zero_add]
theorem lv_limb (l : List Nat) (k : Nat) (h : small l) (hk : k < l.length) : l[k] = lv l / 2 ^ (32 * k) % 4294967296 := by
  rw [← lv_drop l k h (by omega), List.drop_eq_getElem_cons hk]
  simp only [lv]
  have := h l[k] (List.getElem_mem _)
  omega

/-- a list by a function -/
def rowN (n : Nat) (f : Nat → Nat) : List Nat := (List.range n).map f
theorem rowN_length (n : Nat) (f : Nat → Nat) : (rowN n f).length = n := by simp [rowN]
theorem rowN_get (n : Nat) (f : Nat → Nat) (i : Nat) (h : i < (rowN n f).length) : (rowN n f)[i] = f i := by simp [rowN]
theorem rowN_set (n : Nat) (f g : Nat → Nat) (k b : Nat) (hk : k < n) (h1 : g k = b) (h2 : ∀ i, i ≠ k → i < n → g i = f i) : (rowN n f).set k b = rowN n g := by
  apply List.ext_getElem
  · simp [rowN]
  · intro i h1' h2'
    rw [List.getElem_set, rowN_get, rowN_get]
    split
    · subst_vars; rfl
    · rw [h2 i (by omega) (by rw [rowN_length] at h2'; exact h2')]
theorem rowN_zeros (n : Nat) (f : Nat → Nat) (h : ∀ i, i < n → f i = 0) : List.replicate n 0 = rowN n f := by
  apply List.ext_getElem
  · simp [rowN]
  · intro i h1 h2
    rw [rowN_get, h i (by simpa using h1)]; simp
/-- the list of Shr after k steps -/
def shrRow (V s k i : Nat) : Nat := if i < k then V / 2 ^ s / 2 ^ (32 * i) % 4294967296 else 0
theorem shrRow_step (V s m k : Nat) (hk : k < m) : (rowN m (shrRow V s k)).set k (V / 2 ^ s / 2 ^ (32 * k) % 4294967296) = rowN m (shrRow V s (k + 1)) := by
  refine rowN_set _ _ _ _ _ hk ?_ fun i hne _ => ?_
  · unfold shrRow; rw [if_pos (by omega)]
  · unfold shrRow
    by_cases h : i < k
    · rw [if_pos h, if_pos (by omega)]
    · rw [if_neg h, if_neg (by omega)]
theorem shrRow_lt (V s k i : Nat) : shrRow V s k i < 4294967296 := by
  unfold shrRow
  split
  · exact Nat.mod_lt _ (by decide)
  · decide
theorem shrRow_end (V s m : Nat) (hV : V < 2 ^ (32 * m)) : lv (rowN m (shrRow V s m)) = V / 2 ^ s := by
  rw [lv_of_digits _ (V / 2 ^ s) fun i hi => by rw [rowN_get, shrRow, if_pos (by rw [rowN_length] at hi; exact hi)], rowN_length]
  exact Nat.mod_eq_of_lt (Nat.lt_of_le_of_lt (Nat.div_le_self _ _) hV)
theorem small_rowN (n : Nat) (f : Nat → Nat) (h : ∀ i, f i < 4294967296) : small (rowN n f) := by
  intro x hx
  obtain ⟨i, _, rfl⟩ := List.mem_map.1 hx
  exact h i
/-- two limbs together -/
theorem two_limbs (ys : List Nat) (k : Nat) (h : small ys) (hk : k < ys.length) (Y : Nat) (hY : (hk1 : k + 1 < ys.length) → Y = ys[k + 1]) (hY0 : ys.length ≤ k + 1 → Y = 0) (s : Nat) (hs : s < 32) :
    (ys[k] + 4294967296 * Y) / 2 ^ s % 4294967296 = lv ys / 2 ^ s / 2 ^ (32 * k) % 4294967296 := by
  rw [← shr_limb _ _ _ hs, ← lv_drop ys k h (by omega), List.drop_eq_getElem_cons hk]
  simp only [lv]
  have hx := h ys[k] (List.getElem_mem _)
  have hd : lv (ys.drop (k + 1)) % 4294967296 = Y := by
    by_cases h1 : k + 1 < ys.length
    · rw [List.drop_eq_getElem_cons h1, hY h1]
      simp only [lv]
      have := h ys[k + 1] (List.getElem_mem _)
      omega
    · rw [List.drop_of_length_le (by omega), hY0 (by omega)]; rfl
  have e : (ys[k] + 4294967296 * lv (ys.drop (k + 1))) % 18446744073709551616 = ys[k] + 4294967296 * Y := by omega
  rw [e]

end Go.Proofs.YtlbbbafehhdpnaaDoor
