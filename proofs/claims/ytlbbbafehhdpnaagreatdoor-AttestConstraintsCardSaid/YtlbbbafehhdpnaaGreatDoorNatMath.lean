/- Naturals as lists of limbs: products and quotients by a word. No program in sight. -/
import Derived.Test.YtlbbbafehhdpnaaGreatDoorLimbMath
namespace Go.Proofs.YtlbbbafehhdpnaaGreatDoor
set_option linter.unusedVariables false
set_option linter.unusedSimpArgs false

abbrev Bs : Nat := 4294967296
theorem pow_succ32 (k : Nat) : 2 ^ (32 * (k + 1)) = 2 ^ (32 * k) * 4294967296 := by rw [Nat.mul_add, Nat.pow_add]
theorem getD_lt {l : List Nat} (h : small l) (k : Nat) : l.getD k 0 < 4294967296 := by
  rw [List.getD_eq_getElem?_getD]
  cases hk : l[k]? with
  | none => simp
  | some v => exact h v (List.mem_of_getElem? hk)
theorem small_set {l : List Nat} (h : small l) (k v : Nat) (hv : v < 4294967296) : small (l.set k v) := fun x hx => by
  rcases List.mem_or_eq_of_mem_set hx with h' | rfl
  · exact h x h'
  · exact hv
theorem lv_set (l : List Nat) (k v : Nat) (h : k < l.length) : lv (l.set k v) + 2 ^ (32 * k) * l.getD k 0 = lv l + 2 ^ (32 * k) * v := by
  induction l generalizing k with
  | nil => simp at h
  | cons a l ih =>
    cases k with
    | zero => simp [lv]; omega
    | succ k =>
      have := ih k (by simpa using h)
      simp only [List.set_cons_succ, lv, List.getD_cons_succ]
      rw [pow_succ32]
      generalize 2 ^ (32 * k) = P at *
      have e1 : P * 4294967296 * l.getD k 0 = 4294967296 * (P * l.getD k 0) := by rw [Nat.mul_comm P, Nat.mul_assoc]
      have e2 : P * 4294967296 * v = 4294967296 * (P * v) := by rw [Nat.mul_comm P, Nat.mul_assoc]
      rw [e1, e2]
      omega
theorem getD_set_ne' (l : List Nat) (k j v : Nat) (h : k ≠ j) : (l.set k v).getD j 0 = l.getD j 0 := by
  rw [List.getD_eq_getElem?_getD, List.getD_eq_getElem?_getD, List.getElem?_set_ne h]
theorem getD_set_self' (l : List Nat) (k v : Nat) (h : k < l.length) : (l.set k v).getD k 0 = v := by
  rw [List.getD_eq_getElem?_getD, List.getElem?_set_self h]
  rfl
theorem lv_takeD (l : List Nat) (k : Nat) (h : k < l.length) : lv (l.take (k + 1)) = lv (l.take k) + 2 ^ (32 * k) * l.getD k 0 := by
  rw [lv_take_succ l k h, List.getD_eq_getElem?_getD, List.getElem?_eq_getElem h]
  rfl

/-- the inner loop of the product: row o and carry behind j steps. -/
def mulSt (x i : Nat) (b o : List Nat) : Nat → List Nat × Nat
  | 0 => (o, 0)
  | j + 1 => ((mulSt x i b o j).1.set (i + j) (((mulSt x i b o j).2 + (x * b.getD j 0 + (mulSt x i b o j).1.getD (i + j) 0)) % 4294967296), ((mulSt x i b o j).2 + (x * b.getD j 0 + (mulSt x i b o j).1.getD (i + j) 0)) / 4294967296)
structure MulOk (x i : Nat) (b o : List Nat) (j : Nat) : Prop where
  len : (mulSt x i b o j).1.length = o.length
  sm : small (mulSt x i b o j).1
  carry : (mulSt x i b o j).2 < 4294967296
  far : ∀ t, i + j ≤ t → (mulSt x i b o j).1.getD t 0 = o.getD t 0
  val : lv (mulSt x i b o j).1 + 2 ^ (32 * (i + j)) * (mulSt x i b o j).2 = lv o + 2 ^ (32 * i) * (x * lv (b.take j))
theorem word_step (x y z c : Nat) (hx : x < 4294967296) (hy : y < 4294967296) (hz : z < 4294967296) (hc : c < 4294967296) : c + (x * y + z) < 18446744073709551616 := by
  have h1 : x * y ≤ 4294967295 * 4294967295 := Nat.mul_le_mul (by omega) (by omega)
  omega
theorem mul_ok (x i : Nat) (b o : List Nat) (hx : x < 4294967296) (hb : small b) (ho : small o) (hl : i + b.length ≤ o.length) : ∀ j, j ≤ b.length → MulOk x i b o j
  | 0, _ => ⟨rfl, ho, by simp [mulSt], fun t _ => rfl, by simp [mulSt, lv]⟩
  | j + 1, hj => by
    have h := mul_ok x i b o hx hb ho hl j (by omega)
    have hw := word_step x (b.getD j 0) ((mulSt x i b o j).1.getD (i + j) 0) (mulSt x i b o j).2 hx (getD_lt hb j) (getD_lt h.sm _) h.carry
    refine ⟨by simp only [mulSt]; rw [List.length_set, h.len], small_set h.sm _ _ (Nat.mod_lt _ (by decide)), by simp only [mulSt]; omega, fun t ht => ?_, ?_⟩
    · simp only [mulSt]
      rw [getD_set_ne' _ _ _ _ (by omega)]
      exact h.far t (by omega)
    · have hv := h.val
      have hs := lv_set (mulSt x i b o j).1 (i + j) (((mulSt x i b o j).2 + (x * b.getD j 0 + (mulSt x i b o j).1.getD (i + j) 0)) % 4294967296) (by rw [h.len]; omega)
      have ht := lv_takeD b j (by omega)
      simp only [mulSt]
      rw [show i + (j + 1) = i + j + 1 by omega, pow_succ32, ht]
      have hp : 2 ^ (32 * (i + j)) = 2 ^ (32 * i) * 2 ^ (32 * j) := by rw [← Nat.pow_add]; congr 1; omega
      generalize (mulSt x i b o j).1.getD (i + j) 0 = z at *
      generalize (mulSt x i b o j).2 = c at *
      generalize lv (mulSt x i b o j).1 = L at *
      generalize lv ((mulSt x i b o j).1.set (i + j) ((c + (x * b.getD j 0 + z)) % 4294967296)) = L' at *
      generalize b.getD j 0 = y at *
      generalize lv (b.take j) = T at *
      have hdm := Nat.div_add_mod (c + (x * y + z)) 4294967296
      generalize (c + (x * y + z)) % 4294967296 = r at *
      generalize (c + (x * y + z)) / 4294967296 = q at *
      generalize 2 ^ (32 * (i + j)) = Q at *
      have e1 : Q * 4294967296 * q = Q * (4294967296 * q) := Nat.mul_assoc _ _ _
      have e2 : Q * (c + (x * y + z)) = Q * (4294967296 * q) + Q * r := by rw [← hdm, Nat.mul_add]
      have e3 : Q * (c + (x * y + z)) = Q * c + (Q * (x * y) + Q * z) := by rw [Nat.mul_add, Nat.mul_add]
      have e4 : 2 ^ (32 * i) * (x * (T + 2 ^ (32 * j) * y)) = 2 ^ (32 * i) * (x * T) + Q * (x * y) := by
        rw [Nat.mul_add, Nat.mul_add, hp]
        congr 1
        rw [Nat.mul_left_comm x, Nat.mul_assoc]
      rw [e1, e4]
      omega
/-- one row of the product. -/
def mulRow (x i : Nat) (b o : List Nat) : List Nat := (mulSt x i b o b.length).1.set (i + b.length) (mulSt x i b o b.length).2
/-- the product behind i rows. -/
def mulAll (a b : List Nat) : Nat → List Nat
  | 0 => List.replicate (a.length + b.length) 0
  | i + 1 => mulRow (a.getD i 0) i b (mulAll a b i)
structure RowsOk (a b : List Nat) (i : Nat) : Prop where
  len : (mulAll a b i).length = a.length + b.length
  sm : small (mulAll a b i)
  far : ∀ t, i + b.length ≤ t → (mulAll a b i).getD t 0 = 0
  val : lv (mulAll a b i) = lv (a.take i) * lv b
theorem rep_getD0 (n t : Nat) : (List.replicate n 0).getD t 0 = 0 := by
  rw [List.getD_eq_getElem?_getD, List.getElem?_replicate]
  split <;> rfl
theorem rows_ok (a b : List Nat) (ha : small a) (hb : small b) : ∀ i, i ≤ a.length → RowsOk a b i
  | 0, _ => ⟨by simp [mulAll], by simp only [mulAll]; exact small_zeros _, fun t _ => by simp only [mulAll]; exact rep_getD0 _ _, by simp [mulAll, lv_zeros, lv]⟩
  | i + 1, hi => by
    have h := rows_ok a b ha hb i (by omega)
    have hm := mul_ok (a.getD i 0) i b (mulAll a b i) (getD_lt ha i) hb h.sm (by rw [h.len]; omega) b.length (Nat.le_refl _)
    have hml := hm.len
    have hll := h.len
    refine ⟨by simp only [mulAll, mulRow]; rw [List.length_set, hm.len, h.len], by simp only [mulAll, mulRow]; exact small_set hm.sm _ _ hm.carry, fun t ht => ?_, ?_⟩
    · simp only [mulAll, mulRow]
      rw [getD_set_ne' _ _ _ _ (by omega), hm.far t (by omega)]
      exact h.far t (by omega)
    · have hs := lv_set (mulSt (a.getD i 0) i b (mulAll a b i) b.length).1 (i + b.length) (mulSt (a.getD i 0) i b (mulAll a b i) b.length).2 (by omega)
      rw [hm.far _ (Nat.le_refl _), h.far _ (Nat.le_refl _), Nat.mul_zero, Nat.add_zero] at hs
      have hv := hm.val
      rw [List.take_of_length_le (Nat.le_refl _), h.val] at hv
      simp only [mulAll, mulRow]
      rw [hs, hv, lv_takeD a i (by omega), Nat.add_mul, Nat.mul_assoc]
theorem mul_val (a b : List Nat) (ha : small a) (hb : small b) : lv (mulAll a b a.length) = lv a * lv b := by
  have := (rows_ok a b ha hb a.length (Nat.le_refl _)).val
  rwa [List.take_of_length_le (Nat.le_refl _)] at this

/-- dividing by a word: the quotient's row and the rest behind k limbs from the top. -/
def divSt (a : List Nat) (w : Nat) : Nat → List Nat × Nat
  | 0 => (List.replicate a.length 0, 0)
  | k + 1 => ((divSt a w k).1.set (a.length - (k + 1)) (((divSt a w k).2 * 4294967296 + a.getD (a.length - (k + 1)) 0) / w), ((divSt a w k).2 * 4294967296 + a.getD (a.length - (k + 1)) 0) % w)
structure DivOk (a : List Nat) (w k : Nat) : Prop where
  len : (divSt a w k).1.length = a.length
  sm : small (divSt a w k).1
  rest : (divSt a w k).2 < w
  low : ∀ t, t < a.length - k → (divSt a w k).1.getD t 0 = 0
  val : lv (divSt a w k).1 * w + 2 ^ (32 * (a.length - k)) * (divSt a w k).2 + lv (a.take (a.length - k)) = lv a
theorem quot_lt (r x w : Nat) (hr : r < w) (hx : x < 4294967296) : (r * 4294967296 + x) / w < 4294967296 := by
  rw [Nat.div_lt_iff_lt_mul (by omega)]
  have : r * 4294967296 + 4294967296 ≤ w * 4294967296 := by rw [← Nat.succ_mul]; exact Nat.mul_le_mul (by omega) (Nat.le_refl _)
  omega
theorem div_ok (a : List Nat) (w : Nat) (ha : small a) (hw : 0 < w) : ∀ k, k ≤ a.length → DivOk a w k
  | 0, _ => ⟨by simp [divSt], by simp only [divSt]; exact small_zeros _, by simpa [divSt] using hw, fun t _ => by simp only [divSt]; exact rep_getD0 _ _, by simp [divSt, lv_zeros]⟩
  | k + 1, hk => by
    have h := div_ok a w ha hw k (by omega)
    have hl := h.len
    obtain ⟨i, hi⟩ : ∃ i, a.length - k = i + 1 := ⟨a.length - (k + 1), by omega⟩
    have hi' : a.length - (k + 1) = i := by omega
    have hlow := h.low
    have hval := h.val
    rw [hi] at hlow hval
    refine ⟨by simp only [divSt]; rw [List.length_set, h.len], by simp only [divSt]; exact small_set h.sm _ _ (quot_lt _ _ _ h.rest (getD_lt ha _)), by simp only [divSt]; exact Nat.mod_lt _ hw, fun t ht => ?_, ?_⟩
    · simp only [divSt]
      rw [getD_set_ne' _ _ _ _ (by omega)]
      exact hlow t (by omega)
    · simp only [divSt, hi']
      have hs := lv_set (divSt a w k).1 i (((divSt a w k).2 * 4294967296 + a.getD i 0) / w) (by omega)
      rw [hlow i (by omega), Nat.mul_zero, Nat.add_zero] at hs
      rw [hs]
      rw [lv_takeD a i (by omega), pow_succ32] at hval
      have hdm := Nat.div_add_mod ((divSt a w k).2 * 4294967296 + a.getD i 0) w
      generalize ((divSt a w k).2 * 4294967296 + a.getD i 0) / w = q at *
      generalize ((divSt a w k).2 * 4294967296 + a.getD i 0) % w = m at *
      generalize lv (divSt a w k).1 = L at *
      generalize (divSt a w k).2 = r at *
      generalize a.getD i 0 = x at *
      generalize 2 ^ (32 * i) = P at *
      generalize lv (a.take i) = T at *
      have e1 : (L + P * q) * w = L * w + P * (w * q) := by rw [Nat.add_mul, Nat.mul_assoc, Nat.mul_comm q w]
      have e2 : P * (w * q) + P * m = P * (r * 4294967296) + P * x := by rw [← Nat.mul_add, hdm, Nat.mul_add]
      have e3 : P * 4294967296 * r = P * (r * 4294967296) := by rw [Nat.mul_assoc, Nat.mul_comm r]
      rw [e1]
      rw [e3] at hval
      omega
theorem div_val (a : List Nat) (w : Nat) (ha : small a) (hw : 0 < w) : lv (divSt a w a.length).1 = lv a / w ∧ (divSt a w a.length).2 = lv a % w := by
  have h := div_ok a w ha hw a.length (Nat.le_refl _)
  have hv := h.val
  simp only [Nat.sub_self, Nat.mul_zero, Nat.pow_zero, Nat.one_mul, List.take_zero, lv, Nat.add_zero] at hv
  have hr := h.rest
  generalize lv (divSt a w a.length).1 = Q at *
  generalize (divSt a w a.length).2 = r at *
  rw [← hv]
  constructor
  · rw [Nat.mul_comm, Nat.mul_add_div hw, Nat.div_eq_of_lt hr, Nat.add_zero]
  · rw [Nat.mul_comm, Nat.mul_add_mod, Nat.mod_eq_of_lt hr]
end Go.Proofs.YtlbbbafehhdpnaaGreatDoor

namespace Go.Proofs.YtlbbbafehhdpnaaGreatDoor
set_option linter.unusedVariables false
set_option linter.unusedSimpArgs false

def bv : List Nat → Nat
  | [] => 0
  | a :: l => a + 256 * bv l
def byts (N : Nat) : List Nat := if N = 0 then [] else N % 256 :: byts (N / 256)
termination_by N
decreasing_by omega
theorem byts_zero : byts 0 = [] := by rw [byts]; simp
theorem byts_pos (N : Nat) (h : N ≠ 0) : byts N = N % 256 :: byts (N / 256) := by rw [byts, if_neg h]
def small8 (l : List Nat) : Prop := ∀ x ∈ l, x < 256
theorem small8_nil : small8 [] := fun x h => by cases h
theorem small8_cons {a : Nat} {l : List Nat} : small8 (a :: l) ↔ a < 256 ∧ small8 l := by simp [small8]
theorem small8_append {a b : List Nat} : small8 (a ++ b) ↔ small8 a ∧ small8 b := by
  constructor
  · intro h; exact ⟨fun x hx => h x (by simp [hx]), fun x hx => h x (by simp [hx])⟩
  · rintro ⟨h1, h2⟩ x hx
    rcases List.mem_append.1 hx with hx | hx
    · exact h1 x hx
    · exact h2 x hx
theorem small8_take {l : List Nat} (h : small8 l) (k : Nat) : small8 (l.take k) := fun x hx => h x (List.mem_of_mem_take hx)
theorem small8_getD {l : List Nat} (h : small8 l) (k : Nat) : l.getD k 0 < 256 := by
  rw [List.getD_eq_getElem?_getD]
  rcases Nat.lt_or_ge k l.length with hk | hk
  · rw [List.getElem?_eq_getElem hk]; exact h _ (List.getElem_mem _)
  · rw [List.getElem?_eq_none hk]; decide
theorem bv_byts (N : Nat) : bv (byts N) = N := by
  induction N using Nat.strongRecOn with
  | ind N ih =>
    by_cases h : N = 0
    · subst h; rw [byts_zero]; rfl
    · rw [byts_pos N h]
      simp only [bv]
      rw [ih _ (by omega)]
      omega
theorem byts_small (N : Nat) : small8 (byts N) := by
  induction N using Nat.strongRecOn with
  | ind N ih =>
    by_cases h : N = 0
    · subst h; rw [byts_zero]; exact small8_nil
    · rw [byts_pos N h]
      exact small8_cons.2 ⟨Nat.mod_lt _ (by decide), ih _ (by omega)⟩
theorem bv_append (a b : List Nat) : bv (a ++ b) = bv a + 256 ^ a.length * bv b := by
  induction a with
  | nil => simp [bv]
  | cons x a ih =>
    simp only [List.cons_append, bv, ih, List.length_cons, Nat.pow_succ]
    rw [Nat.mul_add, ← Nat.add_assoc, ← Nat.mul_assoc, Nat.mul_comm 256 (256 ^ a.length)]
theorem bv_lt (l : List Nat) (h : small8 l) : bv l < 256 ^ l.length := by
  induction l with
  | nil => simp [bv]
  | cons x l ih =>
    obtain ⟨h1, h2⟩ := small8_cons.1 h
    have := ih h2
    simp only [bv, List.length_cons, Nat.pow_succ]
    generalize 256 ^ l.length = p at *
    omega
/-- a list without noughts at its end is the one of its number. -/
theorem byts_bv (l : List Nat) (h : small8 l) (hc : ∀ k, l.length = k + 1 → l.getD k 0 ≠ 0) : byts (bv l) = l := by
  induction l with
  | nil => exact byts_zero
  | cons a l ih =>
    obtain ⟨h1, h2⟩ := small8_cons.1 h
    have ih' := ih h2 fun k hk => by
      have := hc (k + 1) (by rw [List.length_cons, hk])
      rwa [List.getD_cons_succ] at this
    by_cases hz : bv (a :: l) = 0
    · exfalso
      simp only [bv] at hz
      have ha : a = 0 := by omega
      have hl0 : bv l = 0 := by omega
      rw [hl0, byts_zero] at ih'
      subst ih'
      exact hc 0 rfl (by simpa using ha)
    · rw [byts_pos _ hz]
      simp only [bv]
      have e1 : (a + 256 * bv l) % 256 = a := by omega
      have e2 : (a + 256 * bv l) / 256 = bv l := by omega
      rw [e1, e2, ih']
theorem bv_take_succ (l : List Nat) (k : Nat) (h : k < l.length) : bv (l.take (k + 1)) = bv (l.take k) + 256 ^ k * l.getD k 0 := by
  rw [List.take_succ_eq_append_getElem h, bv_append, List.length_take, Nat.min_eq_left (Nat.le_of_lt h), List.getD_eq_getElem?_getD, List.getElem?_eq_getElem h]
  simp only [bv, Nat.mul_zero, Nat.add_zero, Option.getD_some]
/-- cutting a nought off the end keeps the number. -/
theorem bv_cut (l : List Nat) (k : Nat) (h : k < l.length) (h0 : l.getD k 0 = 0) (hv : bv (l.take (k + 1)) = bv l) : bv (l.take k) = bv l := by
  rw [← hv, bv_take_succ l k h, h0, Nat.mul_zero, Nat.add_zero]
theorem byts_cut (l : List Nat) (k : Nat) (hs : small8 l) (hk : k ≤ l.length) (hv : bv (l.take k) = bv l) (h : ∀ j, k = j + 1 → l.getD j 0 ≠ 0) : l.take k = byts (bv l) := by
  rw [← hv]
  refine (byts_bv _ (small8_take hs _) fun j hj => ?_).symm
  rw [List.length_take, Nat.min_eq_left hk] at hj
  have := h j hj
  rwa [List.getD_eq_getElem?_getD, List.getElem?_take, if_pos (by omega), ← List.getD_eq_getElem?_getD]

/-- each limb as four bytes. -/
def quad (x : Nat) : List Nat := [x % 256, x / 256 % 256, x / 65536 % 256, x / 16777216 % 256]
def quads (l : List Nat) : List Nat := l.flatMap quad
theorem quads_len (l : List Nat) : (quads l).length = 4 * l.length := by
  induction l with
  | nil => rfl
  | cons a l ih => simp only [quads, List.flatMap_cons, List.length_append, List.length_cons] at *; rw [ih]; simp [quad]; omega
theorem quads_small (l : List Nat) : small8 (quads l) := by
  intro x hx
  obtain ⟨y, _, hy⟩ := List.mem_flatMap.1 hx
  simp [quad] at hy
  omega
theorem bv_quads (l : List Nat) (h : small l) : bv (quads l) = lv l := by
  induction l with
  | nil => rfl
  | cons a l ih =>
    obtain ⟨h1, h2⟩ := small_cons.1 h
    have e := ih h2
    simp only [quads, List.flatMap_cons] at *
    rw [bv_append, e]
    simp only [quad, bv, lv, List.length_cons, List.length_nil]
    omega
theorem quads_take_succ (l : List Nat) (k : Nat) (h : k < l.length) : quads (l.take (k + 1)) = quads (l.take k) ++ quad (l.getD k 0) := by
  rw [List.take_succ_eq_append_getElem h, quads, List.flatMap_append, List.getD_eq_getElem?_getD, List.getElem?_eq_getElem h]
  simp [quads]

/-- a byte put into the limbs. -/
theorem pow256 (k : Nat) : 256 ^ k = 2 ^ (8 * k) := by
  rw [Nat.pow_mul]
theorem limb_room (L : List Nat) (hs : small L) (i : Nat) (hi : i / 4 < L.length) (hv : lv L < 256 ^ i) : L.getD (i / 4) 0 < 2 ^ (8 * (i % 4)) := by
  have h := lv_limb L (i / 4) hs hi
  rw [List.getD_eq_getElem?_getD, List.getElem?_eq_getElem hi]
  show L[i / 4] < _
  rw [h]
  refine Nat.lt_of_le_of_lt (Nat.mod_le _ _) ?_
  rw [Nat.div_lt_iff_lt_mul (Nat.pow_pos (by decide)), ← Nat.pow_add]
  rw [pow256] at hv
  rwa [show 8 * (i % 4) + 32 * (i / 4) = 8 * i by omega]
theorem put_byte (L : List Nat) (hs : small L) (i c : Nat) (hi : i / 4 < L.length) (hc : c < 256) (hv : lv L < 256 ^ i) :
    small (L.set (i / 4) (L.getD (i / 4) 0 + c * 2 ^ (8 * (i % 4)))) ∧ lv (L.set (i / 4) (L.getD (i / 4) 0 + c * 2 ^ (8 * (i % 4)))) = lv L + 256 ^ i * c := by
  have h1 := limb_room L hs i hi hv
  have hb : L.getD (i / 4) 0 + c * 2 ^ (8 * (i % 4)) < 4294967296 := by
    have h2 : (c + 1) * 2 ^ (8 * (i % 4)) ≤ 256 * 2 ^ (8 * (i % 4)) := Nat.mul_le_mul_right _ hc
    have h3 : 2 ^ (8 * (i % 4)) ≤ 2 ^ 24 := Nat.pow_le_pow_right (by decide) (by omega)
    have e : 2 ^ 24 = 16777216 := by decide
    rw [e] at h3
    rw [Nat.add_mul, Nat.one_mul] at h2
    omega
  refine ⟨small_set hs _ _ hb, ?_⟩
  have h2 := lv_set L (i / 4) (L.getD (i / 4) 0 + c * 2 ^ (8 * (i % 4))) hi
  rw [Nat.mul_add] at h2
  have e : 256 ^ i * c = 2 ^ (32 * (i / 4)) * (c * 2 ^ (8 * (i % 4))) := by
    rw [Nat.mul_comm c, ← Nat.mul_assoc, ← Nat.pow_add, pow256, show 32 * (i / 4) + 8 * (i % 4) = 8 * i by omega]
  rw [e]
  omega
end Go.Proofs.YtlbbbafehhdpnaaGreatDoor
