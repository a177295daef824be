/- Numbers in groups of seven bits, as lists of bytes. No program in sight. -/
import Derived.Test.YtlbbbafehhdpnaaGreatDoorBitMath3
import Derived.Laws.Bits128
namespace Go.Proofs.YtlbbbafehhdpnaaGreatDoor
set_option linter.unusedVariables false
set_option linter.unusedSimpArgs false

/-- The groups of seven bits, the lowest first. -/
def vint (u : Nat) : List Int := if u < 128 then [(u : Int)] else ((u % 128 + 128 : Nat) : Int) :: vint (u / 128)
termination_by u
decreasing_by omega

theorem vint_small (u : Nat) (h : u < 128) : vint u = [(u : Int)] := by rw [vint, if_pos h]
theorem vint_big (u : Nat) (h : 128 ≤ u) : vint u = ((u % 128 + 128 : Nat) : Int) :: vint (u / 128) := by rw [vint, if_neg (by omega)]

theorem vint_length (u k : Nat) (h : u < 128 ^ (k + 1)) : (vint u).length ≤ k + 1 := by
  induction k generalizing u with
  | zero => rw [vint_small u (by simpa using h)]; simp
  | succ k ih =>
    by_cases hu : u < 128
    · rw [vint_small u hu]; simp
    · rw [vint_big u (by omega)]
      have : u / 128 < 128 ^ (k + 1) := by rw [Nat.div_lt_iff_lt_mul (by omega), ← Nat.pow_succ]; exact h
      have := ih _ this
      simp only [List.length_cons]; omega
theorem vint_length64 (u : Nat) (h : u < 18446744073709551616) : (vint u).length ≤ 10 :=
  vint_length u 9 (Nat.lt_of_lt_of_le h (by decide))
theorem vint_pos (u : Nat) : 0 < (vint u).length := by
  by_cases hu : u < 128
  · rw [vint_small u hu]; simp
  · rw [vint_big u (by omega)]; simp

/-- the number of a list of groups -/
def hn : List Int → Nat
  | [] => 0
  | c :: r => (c % 128).toNat + 128 * hn r
theorem hn_vint (u : Nat) : hn (vint u) = u := by
  induction u using Nat.strongRecOn with
  | _ u ih =>
    by_cases hu : u < 128
    · rw [vint_small u hu]; simp only [hn]; omega
    · rw [vint_big u (by omega)]
      simp only [hn]
      rw [ih (u / 128) (by omega)]
      omega

/-- all groups but the last have their high bit, the last has none -/
def shaped : List Int → Bool
  | [] => false
  | [c] => decide (0 ≤ c ∧ c < 128)
  | c :: d :: r => decide (128 ≤ c ∧ c < 256) && shaped (d :: r)
theorem shaped_vint (u : Nat) : shaped (vint u) = true := by
  induction u using Nat.strongRecOn with
  | _ u ih =>
    by_cases hu : u < 128
    · rw [vint_small u hu]; simp [shaped]; omega
    · rw [vint_big u (by omega)]
      have h1 := ih (u / 128) (by omega)
      have hp := vint_pos (u / 128)
      generalize vint (u / 128) = l at *
      cases l with
      | nil => simp at hp
      | cons d r => simp only [shaped, h1, Bool.and_true, decide_eq_true_eq]; omega
theorem shaped_pos (l : List Int) (h : shaped l = true) : 0 < l.length := by
  cases l with
  | nil => simp [shaped] at h
  | cons c r => simp
/-- the last group -/
def lastOf (l : List Int) : Int := l.getLastD 0

theorem vint_hn (l : List Int) (hs : shaped l = true) (h : l.length = 1 ∨ lastOf l ≠ 0) : vint (hn l) = l := by
  induction l with
  | nil => simp [shaped] at hs
  | cons c r ih =>
    cases r with
    | nil =>
      simp [shaped] at hs
      simp only [hn]
      rw [vint_small _ (by omega)]
      congr 1
      omega
    | cons d r =>
      simp only [shaped, Bool.and_eq_true, decide_eq_true_eq] at hs
      have h2 : lastOf (d :: r) ≠ 0 := by
        rcases h with h | h
        · simp at h
        · simpa [lastOf] using h
      have := ih hs.2 (Or.inr h2)
      have hpos : 0 < hn (d :: r) := by
        rcases Nat.eq_zero_or_pos (hn (d :: r)) with h0 | h0
        · rw [h0] at this
          rw [vint_small 0 (by omega)] at this
          rw [← this] at h2
          simp [lastOf] at h2
        · exact h0
      show vint ((c % 128).toNat + 128 * hn (d :: r)) = _
      rw [vint_big _ (by omega)]
      congr 1
      · omega
      · have e : ((c % 128).toNat + 128 * hn (d :: r)) / 128 = hn (d :: r) := by omega
        rw [e, this]
theorem vint_canon (u : Nat) : (vint u).length = 1 ∨ lastOf (vint u) ≠ 0 := by
  induction u using Nat.strongRecOn with
  | _ u ih =>
    by_cases hu : u < 128
    · rw [vint_small u hu]; left; rfl
    · right
      rw [vint_big u (by omega)]
      by_cases h2 : u / 128 < 128
      · rw [vint_small _ h2]; simp [lastOf]; omega
      · have := ih (u / 128) (by omega)
        have hb := vint_big (u / 128) (by omega)
        have hp := vint_pos (u / 128 / 128)
        rcases this with h | h
        · rw [hb] at h; simp only [List.length_cons] at h; omega
        · generalize vint (u / 128) = l at *
          cases l with
          | nil => simp at hb
          | cons d r => simpa [lastOf] using h

/-- what the reader answers: the number and how many bytes it takes; (0, 0): there is none. i: the place, acc: what has been read -/
def unvGo : List Int → Nat → Nat → Nat × Nat
  | [], _, _ => (0, 0)
  | c :: r, i, acc =>
    if (i = 9 ∧ 1 < c) ∨ (c = 0 ∧ 0 < i) then (0, 0)
    else if c < 128 then (acc + (c % 128).toNat * 128 ^ i, i + 1)
    else unvGo r (i + 1) (acc + (c % 128).toNat * 128 ^ i)
def unv (l : List Int) : Nat × Nat := unvGo l 0 0

theorem unv_acc_lt (acc i : Nat) (c : Int) (h : acc < 128 ^ i) : acc + (c % 128).toNat * 128 ^ i < 128 ^ (i + 1) := by
  have h1 : (c % 128).toNat ≤ 127 := by omega
  have h2 : (c % 128).toNat * 128 ^ i ≤ 127 * 128 ^ i := Nat.mul_le_mul_right _ h1
  rw [Nat.pow_succ]
  omega

/-- the answer lies within the bytes, and the number within 64 bits -/
theorem unvGo_bound (l : List Int) (i acc : Nat) (hacc : acc < 128 ^ i) (hi : i ≤ 9) (h0 : ∀ c ∈ l, 0 ≤ c) : (unvGo l i acc).1 < 18446744073709551616 ∧ (unvGo l i acc).2 ≤ i + l.length ∧ (unvGo l i acc).2 ≤ 10 := by
  induction l generalizing i acc with
  | nil => simp [unvGo]
  | cons c r ih =>
    unfold unvGo
    split
    · simp
    · rename_i hn
      split
      · refine ⟨?_, by simp, by simp; omega⟩
        show acc + (c % 128).toNat * 128 ^ i < _
        by_cases h9 : i = 9
        · subst h9
          have hc : c ≤ 1 := by omega
          have hc0 := h0 c (by simp)
          have : (c % 128).toNat ≤ 1 := by omega
          have h2 : (c % 128).toNat * 128 ^ 9 ≤ 1 * 128 ^ 9 := Nat.mul_le_mul_right _ this
          have e : (128 : Nat) ^ 9 = 9223372036854775808 := by decide
          rw [e] at hacc h2 ⊢
          omega
        · have := unv_acc_lt acc i c hacc
          refine Nat.lt_of_lt_of_le this (Nat.le_trans (Nat.pow_le_pow_right (by omega) (show i + 1 ≤ 9 by omega)) (by decide))
      · rename_i hc
        have h9 : i ≠ 9 := by
          intro h9
          exact hn (Or.inl ⟨h9, by omega⟩)
        have := ih (i + 1) _ (unv_acc_lt acc i c hacc) (by omega) (fun d hd => h0 d (by simp [hd]))
        refine ⟨this.1, by simp only [List.length_cons]; omega, this.2.2⟩

/-- reading what was written, whatever stands behind it -/
theorem unvGo_vint (u : Nat) (t : List Int) (i acc : Nat) (hi : u * 128 ^ i < 18446744073709551616) (h9 : i ≤ 9) (hz : 0 < i → 0 < u) :
    unvGo (vint u ++ t) i acc = (acc + u * 128 ^ i, i + (vint u).length) := by
  induction u using Nat.strongRecOn generalizing i acc with
  | _ u ih =>
    by_cases hu : u < 128
    · rw [vint_small u hu]
      show unvGo ((u : Int) :: t) i acc = _
      unfold unvGo
      have hn : ¬ ((i = 9 ∧ 1 < (u : Int)) ∨ ((u : Int) = 0 ∧ 0 < i)) := by
        rintro (⟨h9', h1⟩ | ⟨h1, h2⟩)
        · subst h9'
          have e : (128 : Nat) ^ 9 = 9223372036854775808 := by decide
          rw [e] at hi
          omega
        · have := hz h2; omega
      rw [if_neg hn, if_pos (by omega)]
      have e : ((u : Int) % 128).toNat = u := by omega
      rw [e]
      rfl
    · rw [vint_big u (by omega)]
      show unvGo (((u % 128 + 128 : Nat) : Int) :: (vint (u / 128) ++ t)) i acc = _
      unfold unvGo
      have h9' : i ≠ 9 := by
        intro h
        subst h
        have e : (128 : Nat) ^ 9 = 9223372036854775808 := by decide
        rw [e] at hi
        omega
      rw [if_neg (by omega), if_neg (by omega)]
      have hp : 0 < 128 ^ i := Nat.pow_pos (by omega)
      have e1 : (((u % 128 + 128 : Nat) : Int) % 128).toNat = u % 128 := by omega
      have hm : u / 128 * 128 ^ (i + 1) ≤ u * 128 ^ i := by
        rw [Nat.pow_succ, ← Nat.mul_assoc, Nat.mul_right_comm]
        exact Nat.mul_le_mul_right _ (Nat.div_mul_le_self _ _)
      rw [ih (u / 128) (by omega) (i + 1) _ (by omega) (by omega) (fun _ => by omega), e1]
      refine Prod.ext ?_ ?_
      · show acc + u % 128 * 128 ^ i + u / 128 * 128 ^ (i + 1) = acc + u * 128 ^ i
        have e2 : u * 128 ^ i = (u % 128 + 128 * (u / 128)) * 128 ^ i := by rw [Nat.mod_add_div]
        rw [e2, Nat.add_mul, Nat.pow_succ, Nat.mul_comm (128 ^ i) 128, ← Nat.mul_assoc, Nat.mul_comm (u / 128) 128]
        omega
      · simp only [List.length_cons]; omega
theorem unv_vint (u : Nat) (t : List Int) (h : u < 18446744073709551616) : unv (vint u ++ t) = (u, (vint u).length) := by
  have := unvGo_vint u t 0 0 (by simpa using h) (by omega) (by omega)
  simpa [unv] using this

/-! ### the reference's way of reading -/
theorem hn_last (p : List Int) (hp : 0 < p.length) : ∃ m, m < 128 ^ (p.length - 1) ∧ hn p = m + (lastOf p % 128).toNat * 128 ^ (p.length - 1) := by
  induction p with
  | nil => simp at hp
  | cons c r ih =>
    cases r with
    | nil => exact ⟨0, by simp, by simp [hn, lastOf]⟩
    | cons d r =>
      obtain ⟨m, hm, he⟩ := ih (by simp)
      have hl : lastOf (c :: d :: r) = lastOf (d :: r) := by simp [lastOf]
      rw [hl]
      refine ⟨(c % 128).toNat + 128 * m, ?_, ?_⟩
      · simp only [List.length_cons, Nat.add_sub_cancel] at hm ⊢
        rw [Nat.pow_succ]
        have : (c % 128).toNat ≤ 127 := by omega
        omega
      · show (c % 128).toNat + 128 * hn (d :: r) = _
        rw [he]
        simp only [List.length_cons, Nat.add_sub_cancel]
        rw [Nat.pow_succ, Nat.mul_add, Nat.add_assoc]
        congr 2
        rw [← Nat.mul_assoc, Nat.mul_comm 128 (lastOf (d :: r) % 128).toNat, Nat.mul_assoc, Nat.mul_comm 128]
theorem shaped_last (p : List Int) (hs : shaped p = true) : 0 ≤ lastOf p ∧ lastOf p < 128 := by
  induction p with
  | nil => simp [shaped] at hs
  | cons c r ih =>
    cases r with
    | nil => simpa [shaped, lastOf] using hs
    | cons d r =>
      simp only [shaped, Bool.and_eq_true] at hs
      simpa [lastOf] using ih hs.2

theorem unvGo_shaped (p t : List Int) (i acc : Nat) (hs : shaped p = true) (hi : i + p.length ≤ 10) :
    unvGo (p ++ t) i acc = if (i + p.length = 10 ∧ 1 < lastOf p) ∨ (lastOf p = 0 ∧ 1 < i + p.length) then (0, 0) else (acc + hn p * 128 ^ i, i + p.length) := by
  induction p generalizing i acc with
  | nil => simp [shaped] at hs
  | cons c r ih =>
    cases r with
    | nil =>
      simp [shaped] at hs
      show unvGo (c :: t) i acc = _
      unfold unvGo
      have hl : lastOf [c] = c := rfl
      rw [hl]
      simp only [List.length_cons, List.length_nil, Nat.zero_add]
      by_cases h : (i = 9 ∧ 1 < c) ∨ (c = 0 ∧ 0 < i)
      · rw [if_pos h, if_pos (by omega)]
      · rw [if_neg h, if_pos (by omega), if_neg (by omega)]
        simp [hn]
    | cons d r =>
      simp only [shaped, Bool.and_eq_true, decide_eq_true_eq] at hs
      have hl : lastOf (c :: d :: r) = lastOf (d :: r) := by simp [lastOf]
      rw [hl]
      show unvGo (c :: (d :: r ++ t)) i acc = _
      unfold unvGo
      simp only [List.length_cons] at hi
      rw [if_neg (by omega), if_neg (by omega), ih (i + 1) _ hs.2 (by simp only [List.length_cons]; omega)]
      have e1 : i + 1 + (d :: r).length = i + (c :: d :: r).length := by simp only [List.length_cons]; omega
      rw [e1]
      split
      · rfl
      · refine Prod.ext ?_ rfl
        show acc + (c % 128).toNat * 128 ^ i + hn (d :: r) * 128 ^ (i + 1) = acc + ((c % 128).toNat + 128 * hn (d :: r)) * 128 ^ i
        rw [Nat.add_mul, Nat.pow_succ, Nat.mul_comm (128 ^ i) 128, ← Nat.mul_assoc, Nat.mul_comm (hn (d :: r)) 128]
        omega

/-- The reference: at the first group without the high bit the number is written anew and held against what was read. -/
theorem unv_first (p t : List Int) (hs : shaped p = true) (hl : p.length ≤ 10) :
    unv (p ++ t) = if vint (hn p % 18446744073709551616) = p then (hn p % 18446744073709551616, p.length) else (0, 0) := by
  have hpos := shaped_pos p hs
  have hb := shaped_last p hs
  obtain ⟨m, hm, he⟩ := hn_last p hpos
  have h9 : (128 : Nat) ^ 9 = 9223372036854775808 := by decide
  have hlt : (lastOf p % 128).toNat = (lastOf p).toNat := by congr 1; omega
  rw [hlt] at he
  rw [unv, unvGo_shaped p t 0 0 hs (by omega)]
  simp only [Nat.zero_add, Nat.pow_zero, Nat.mul_one]
  have hsmall : ¬ (p.length = 10 ∧ 1 < lastOf p) → hn p < 18446744073709551616 := by
    intro h
    by_cases h10 : p.length = 10
    · have h1 : (lastOf p).toNat ≤ 1 := by omega
      have h2 : (lastOf p).toNat * 128 ^ (p.length - 1) ≤ 1 * 128 ^ (p.length - 1) := Nat.mul_le_mul_right _ h1
      rw [h10] at hm h2 he
      simp only [Nat.reduceSub] at hm h2 he
      rw [h9] at hm h2
      rw [h9] at he
      omega
    · have h1 : hn p < 128 ^ p.length := by
        have h2 : (lastOf p).toNat * 128 ^ (p.length - 1) ≤ 127 * 128 ^ (p.length - 1) := Nat.mul_le_mul_right _ (by omega)
        have e : 128 ^ p.length = 128 ^ (p.length - 1) * 128 := by rw [← Nat.pow_succ]; congr 1; omega
        rw [e, he]
        omega
      have h2 : 128 ^ p.length ≤ 128 ^ 9 := Nat.pow_le_pow_right (by omega) (by omega)
      rw [h9] at h2
      omega
  by_cases hc : (p.length = 10 ∧ 1 < lastOf p) ∨ (lastOf p = 0 ∧ 1 < p.length)
  · rw [if_pos hc, if_neg]
    intro hv
    rcases hc with ⟨h10, h1⟩ | ⟨h1, h2⟩
    · have hh := hn_vint (hn p % 18446744073709551616)
      rw [hv] at hh
      have h2 : 2 * 128 ^ (p.length - 1) ≤ (lastOf p).toNat * 128 ^ (p.length - 1) := Nat.mul_le_mul_right _ (by omega)
      rw [h10] at h2 he
      simp only [Nat.reduceSub] at h2 he
      rw [h9] at h2
      rw [h9] at he
      omega
    · have := vint_canon (hn p % 18446744073709551616)
      rw [hv] at this
      omega
  · rw [if_neg hc]
    have h1 := hsmall (fun h => hc (Or.inl h))
    have h2 : hn p % 18446744073709551616 = hn p := Nat.mod_eq_of_lt h1
    rw [h2, if_pos (vint_hn p hs (by omega))]

theorem unvGo_none (l : List Int) (i acc : Nat) (hi : i ≤ 10) (h : ∀ j c, i + j < 10 → l[j]? = some c → 128 ≤ c) : unvGo l i acc = (0, 0) ∨ i = 10 := by
  induction l generalizing i acc with
  | nil => left; rfl
  | cons c r ih =>
    by_cases h10 : i = 10
    · right; exact h10
    · left
      have hc : 128 ≤ c := h 0 c (by omega) rfl
      unfold unvGo
      by_cases h9 : i = 9
      · rw [if_pos (Or.inl ⟨h9, by omega⟩)]
      · rw [if_neg (by omega), if_neg (by omega)]
        rcases ih (i + 1) (acc + (c % 128).toNat * 128 ^ i) (by omega) (fun j d hj hd => h (j + 1) d (by omega) (by simpa using hd)) with h1 | h1
        · exact h1
        · omega
theorem unv_none (l : List Int) (h : ∀ j c, j < 10 → l[j]? = some c → 128 ≤ c) : unv l = (0, 0) := by
  rcases unvGo_none l 0 0 (by omega) (fun j c hj hc => h j c (by omega) hc) with h1 | h1
  · exact h1
  · omega

/-- a prefix whose groups but the last have the high bit -/
theorem shaped_take (l : List Int) (k : Nat) (hk : k < l.length) (h1 : ∀ j c, j < k → l[j]? = some c → 128 ≤ c ∧ c < 256) (h2 : 0 ≤ l[k] ∧ l[k] < 128) : shaped (l.take (k + 1)) = true := by
  induction k generalizing l with
  | zero =>
    cases l with
    | nil => simp at hk
    | cons c r => simpa [shaped] using h2
  | succ k ih =>
    cases l with
    | nil => simp at hk
    | cons c r =>
      have hk' : k < r.length := by simpa using hk
      have h := ih r hk' (fun j d hj hd => h1 (j + 1) d (by omega) (by simpa using hd)) (by simpa using h2)
      have hc := h1 0 c (by omega) rfl
      cases r with
      | nil => simp at hk'
      | cons d r =>
        simp only [List.take_succ_cons] at h ⊢
        simp only [shaped, h, Bool.and_true, decide_eq_true_eq]
        exact hc

end Go.Proofs.YtlbbbafehhdpnaaGreatDoor
