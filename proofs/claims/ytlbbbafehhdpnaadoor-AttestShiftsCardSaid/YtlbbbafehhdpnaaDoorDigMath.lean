/- Decimal digits of naturals. No program in sight. -/
namespace Go.Proofs.YtlbbbafehhdpnaaDoor
set_option linter.unusedVariables false
set_option linter.unusedSimpArgs false

/-- the number of a row of digits, the highest first. -/
def dvA (a : Nat) : List Nat → Nat
  | [] => a
  | d :: l => dvA (10 * a + d) l
def dv (l : List Nat) : Nat := dvA 0 l
def dec (N : Nat) : List Nat := if N < 10 then [N] else dec (N / 10) ++ [N % 10]
termination_by N
decreasing_by omega
def small10 (l : List Nat) : Prop := ∀ x ∈ l, x < 10
theorem small10_cons {a : Nat} {l : List Nat} : small10 (a :: l) ↔ a < 10 ∧ small10 l := by simp [small10]
theorem small10_append {a b : List Nat} : small10 (a ++ b) ↔ small10 a ∧ small10 b := by
  constructor
  · intro h; exact ⟨fun x hx => h x (by simp [hx]), fun x hx => h x (by simp [hx])⟩
  · rintro ⟨h1, h2⟩ x hx
    rcases List.mem_append.1 hx with hx | hx
    · exact h1 x hx
    · exact h2 x hx
theorem dvA_append (a : Nat) (l m : List Nat) : dvA a (l ++ m) = dvA (dvA a l) m := by
  induction l generalizing a with
  | nil => rfl
  | cons d l ih => exact ih _
theorem dvA_val (a : Nat) (l : List Nat) : dvA a l = a * 10 ^ l.length + dv l := by
  induction l generalizing a with
  | nil => simp [dvA, dv]
  | cons d l ih =>
    have h1 := ih (10 * a + d)
    have h2 := ih (10 * 0 + d)
    simp only [dv, dvA, List.length_cons, Nat.pow_succ] at *
    rw [h1, h2, Nat.add_mul, Nat.mul_zero, Nat.zero_add, Nat.mul_comm 10 a, Nat.mul_assoc a 10, Nat.mul_comm 10 (10 ^ l.length)]
    omega
theorem dv_append (l m : List Nat) : dv (l ++ m) = dv l * 10 ^ m.length + dv m := by
  unfold dv
  rw [dvA_append, dvA_val]
  rfl
theorem dv_lt (l : List Nat) (h : small10 l) : dv l < 10 ^ l.length := by
  induction l with
  | nil => decide
  | cons d l ih =>
    obtain ⟨h1, h2⟩ := small10_cons.1 h
    have h3 := ih h2
    show dvA (10 * 0 + d) l < _
    rw [dvA_val, List.length_cons, Nat.pow_succ, Nat.mul_zero, Nat.zero_add]
    have h4 : (d + 1) * 10 ^ l.length ≤ 10 * 10 ^ l.length := Nat.mul_le_mul_right _ h1
    rw [Nat.add_mul, Nat.one_mul] at h4
    omega
theorem dec_small (N : Nat) : small10 (dec N) := by
  induction N using Nat.strongRecOn with
  | ind N ih =>
    rw [dec]
    split
    · intro x hx; simp at hx; omega
    · exact small10_append.2 ⟨ih _ (by omega), by intro x hx; simp at hx; omega⟩
theorem dv_dec (N : Nat) : dv (dec N) = N := by
  induction N using Nat.strongRecOn with
  | ind N ih =>
    rw [dec]
    split
    · simp [dv, dvA]
    · rw [dv_append, ih _ (by omega)]
      simp [dv, dvA]
      omega
theorem dec_pos (N : Nat) : dec N ≠ [] := by
  rw [dec]
  split
  · simp
  · simp
/-- a row of digits without a nought in front is the one of its number. -/
theorem dec_dv (l : List Nat) (h : small10 l) (hne : l ≠ []) (h0 : l.getD 0 0 ≠ 0) : dec (dv l) = l := by
  obtain ⟨n, hn⟩ : ∃ n, l.length = n := ⟨_, rfl⟩
  induction n generalizing l with
  | zero => exact absurd (List.eq_nil_of_length_eq_zero hn) hne
  | succ n ih =>
    rcases List.eq_nil_or_concat l with rfl | ⟨m, d, rfl⟩
    · exact absurd rfl hne
    · rw [List.concat_eq_append] at *
      obtain ⟨h1, h2⟩ := small10_append.1 h
      have hd : d < 10 := h2 d (by simp)
      have e : dv (m ++ [d]) = dv m * 10 + d := by rw [dv_append]; simp [dv, dvA]
      rw [e]
      by_cases hm : m = []
      · subst hm
        rw [dec, if_pos (by simp [dv, dvA]; omega)]
        simp [dv, dvA]
      · have hm0 : m.getD 0 0 ≠ 0 := by
          cases m with
          | nil => exact absurd rfl hm
          | cons x m => simpa using h0
        have hml : m.length = n := by simpa using hn
        have ih' := ih m h1 hm hm0 hml
        have hpos : 0 < dv m := by
          cases m with
          | nil => exact absurd rfl hm
          | cons x m =>
            show 0 < dvA (10 * 0 + x) m
            rw [dvA_val]
            have : 0 < x := by simpa using Nat.pos_of_ne_zero hm0
            have := Nat.mul_pos (show 0 < 10 * 0 + x by omega) (Nat.pow_pos (n := m.length) (show 0 < 10 by decide))
            omega
        rw [dec, if_neg (by omega), show (dv m * 10 + d) / 10 = dv m by omega, show (dv m * 10 + d) % 10 = d by omega, ih']
/-- noughts in front taken off. -/
def trim0 : List Nat → List Nat
  | [] => []
  | d :: l => if d = 0 then trim0 l else d :: l
theorem dv_trim0 (l : List Nat) : dv (trim0 l) = dv l := by
  induction l with
  | nil => rfl
  | cons d l ih =>
    simp only [trim0]
    split
    · subst_vars; rw [ih]; rfl
    · rfl
theorem small10_trim0 {l : List Nat} (h : small10 l) : small10 (trim0 l) := by
  induction l with
  | nil => exact h
  | cons d l ih =>
    simp only [trim0]
    split
    · exact ih (small10_cons.1 h).2
    · exact h
theorem trim0_head (l : List Nat) (h : trim0 l ≠ []) : (trim0 l).getD 0 0 ≠ 0 := by
  induction l with
  | nil => exact absurd rfl h
  | cons d l ih =>
    simp only [trim0] at h ⊢
    split
    · rename_i hd; rw [if_pos hd] at h; exact ih h
    · rename_i hd; simpa using hd
theorem dec_trim0 (l : List Nat) (h : small10 l) (h0 : 0 < dv l) : trim0 l = dec (dv l) := by
  have hne : trim0 l ≠ [] := fun e => by
    have := dv_trim0 l
    rw [e] at this
    simp [dv, dvA] at this
    unfold dv at h0
    omega
  rw [← dv_trim0 l]
  exact (dec_dv _ (small10_trim0 h) hne (trim0_head l hne)).symm

/-- groups of nine digits, the lowest first. -/
def gvl : List Nat → Nat
  | [] => 0
  | g :: l => g + 1000000000 * gvl l
theorem gvl_append (l : List Nat) (g : Nat) : gvl (l ++ [g]) = gvl l + 1000000000 ^ l.length * g := by
  induction l with
  | nil => simp [gvl]
  | cons x l ih =>
    simp only [List.cons_append, gvl, ih, List.length_cons, Nat.pow_succ]
    rw [Nat.mul_add, ← Nat.mul_assoc, Nat.mul_comm 1000000000 (1000000000 ^ l.length)]
    omega
/-- the digits of a group from the power 10^j down. -/
def nines (g : Nat) : Nat → List Nat
  | 0 => []
  | j + 1 => g / 10 ^ j % 10 :: nines g j
theorem nines_len (g j : Nat) : (nines g j).length = j := by
  induction j with
  | zero => rfl
  | succ j ih => simp [nines, ih]
theorem nines_small (g j : Nat) : small10 (nines g j) := by
  induction j with
  | zero => intro x h; cases h
  | succ j ih => exact small10_cons.2 ⟨Nat.mod_lt _ (by decide), ih⟩
theorem dv_nines (g j : Nat) : dv (nines g j) = g % 10 ^ j := by
  induction j with
  | zero => simp [nines, dv, dvA, Nat.mod_one]
  | succ j ih =>
    show dvA (10 * 0 + g / 10 ^ j % 10) (nines g j) = _
    rw [dvA_val, ih, nines_len, Nat.pow_succ, Nat.mod_mul]
    generalize 10 ^ j = p at *
    rw [Nat.mul_zero, Nat.zero_add, Nat.mul_comm]
    omega
/-- all groups, the highest first. -/
def allNines : List Nat → List Nat
  | [] => []
  | g :: l => allNines l ++ nines g 9
theorem allNines_len (l : List Nat) : (allNines l).length = 9 * l.length := by
  induction l with
  | nil => rfl
  | cons g l ih => simp only [allNines, List.length_append, ih, nines_len, List.length_cons]; omega
theorem allNines_small (l : List Nat) : small10 (allNines l) := by
  induction l with
  | nil => intro x h; cases h
  | cons g l ih => exact small10_append.2 ⟨ih, nines_small g 9⟩
theorem dv_allNines (l : List Nat) (h : ∀ g ∈ l, g < 1000000000) : dv (allNines l) = gvl l := by
  induction l with
  | nil => rfl
  | cons g l ih =>
    simp only [allNines, gvl]
    rw [dv_append, ih (fun x hx => h x (by simp [hx])), dv_nines, nines_len]
    have hg := h g (by simp)
    have e : 10 ^ 9 = 1000000000 := by decide
    rw [e, Nat.mod_eq_of_lt hg, Nat.mul_comm]
    omega
theorem allNines_drop (l : List Nat) (i : Nat) (h : i < l.length) : allNines (l.drop i) = allNines (l.drop (i + 1)) ++ nines (l.getD i 0) 9 := by
  rw [List.drop_eq_getElem_cons h]
  simp only [allNines]
  rw [List.getD_eq_getElem?_getD, List.getElem?_eq_getElem h]
  rfl
end Go.Proofs.YtlbbbafehhdpnaaDoor
