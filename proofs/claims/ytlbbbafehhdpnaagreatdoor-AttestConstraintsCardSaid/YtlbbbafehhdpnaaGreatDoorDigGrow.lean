/- Contract of package digits: grow. -/
import Derived.Test.YtlbbbafehhdpnaaGreatDoorNatMul
import Derived.Test.YtlbbbafehhdpnaaGreatDoorLongMath
import Derived.Test.YtlbbbafehhdpnaaGreatDoorLimbMath
import Derived.Lib.OthersKept
import Derived.Deep.CutBlock
namespace Go.Proofs.YtlbbbafehhdpnaaGreatDoor
open Go.RowKit
set_option linter.unusedVariables false
set_option linter.unusedSimpArgs false

def growP (xs : List Nat) (b mr : Nat) : Nat → List Nat × Nat
  | 0 => ([], mr)
  | i + 1 => ((growP xs b mr i).1 ++ [((growP xs b mr i).2 + xs.getD i 0 * b) % 4294967296], ((growP xs b mr i).2 + xs.getD i 0 * b) / 4294967296)
structure GrowOk (xs : List Nat) (b mr i : Nat) : Prop where
  len : (growP xs b mr i).1.length = i
  sm : small (growP xs b mr i).1
  carry : (growP xs b mr i).2 < 4294967296
  val : lv (growP xs b mr i).1 + 2 ^ (32 * i) * (growP xs b mr i).2 = lv (xs.take i) * b + mr
theorem grow_c (c x b : Nat) (hc : c < 4294967296) (hx : x < 4294967296) (hb : b < 4294967296) : c + x * b < 18446744073709551616 ∧ (c + x * b) / 4294967296 < 4294967296 := by
  have h1 : x * b ≤ 4294967295 * 4294967295 := Nat.mul_le_mul (by omega) (by omega)
  constructor <;> omega
theorem grow_ok (xs : List Nat) (b mr : Nat) (hs : small xs) (hb : b < 4294967296) (hm : mr < 4294967296) : ∀ i, i ≤ xs.length → GrowOk xs b mr i
  | 0, _ => ⟨rfl, small_nil, hm, by simp [growP, lv]⟩
  | i + 1, hi => by
    have h := grow_ok xs b mr hs hb hm i (by omega)
    obtain ⟨c1, c2⟩ := grow_c _ _ b h.carry (getD_lt hs i) hb
    refine ⟨by simp only [growP]; rw [List.length_append, h.len]; rfl, small_append.2 ⟨h.sm, by intro x hx; simp at hx; omega⟩, c2, ?_⟩
    have hv := h.val
    simp only [growP]
    rw [lv_append, h.len, lv_takeD xs i (by omega), pow_succ32, Nat.add_mul]
    have e := Nat.div_add_mod ((growP xs b mr i).2 + xs.getD i 0 * b) 4294967296
    generalize ((growP xs b mr i).2 + xs.getD i 0 * b) % 4294967296 = R at *
    generalize ((growP xs b mr i).2 + xs.getD i 0 * b) / 4294967296 = Q at *
    generalize (growP xs b mr i).2 = c at *
    generalize xs.getD i 0 = x at *
    generalize 2 ^ (32 * i) = P at *
    generalize lv (growP xs b mr i).1 = G at *
    generalize lv (xs.take i) = X at *
    have e2 : P * (4294967296 * Q + R) = P * (c + x * b) := by rw [e]
    rw [Nat.mul_add, Nat.mul_add, ← Nat.mul_assoc P, ← Nat.mul_assoc P] at e2
    simp only [lv, Nat.mul_zero, Nat.add_zero]
    omega
theorem grow_row (P xs : List Nat) (i y : Nat) (hP : P.length = i) (hi : i < xs.length) : (P ++ xs.drop i).set i y = (P ++ [y]) ++ xs.drop (i + 1) := by
  rw [List.set_append_right _ _ (by omega), hP, Nat.sub_self, List.drop_eq_getElem_cons hi, List.set_cons_zero, List.append_assoc]
  rfl
theorem grow_at (P xs : List Nat) (i : Nat) (hP : P.length = i) (hi : i < xs.length) : (P ++ xs.drop i).getD i 0 = xs.getD i 0 := by
  rw [List.getD_eq_getElem?_getD, List.getElem?_append_right (by omega), hP, Nat.sub_self, List.getElem?_drop, Nat.add_zero, ← List.getD_eq_getElem?_getD]
/-- the whole: the row with the carry behind it. -/
def growAll (xs : List Nat) (b mr : Nat) : List Nat := (growP xs b mr xs.length).1 ++ (if (growP xs b mr xs.length).2 = 0 then [] else [(growP xs b mr xs.length).2])
theorem growAll_ok (xs : List Nat) (b mr : Nat) (hs : small xs) (hb : b < 4294967296) (hm : mr < 4294967296) : small (growAll xs b mr) ∧ lv (growAll xs b mr) = lv xs * b + mr ∧ (growAll xs b mr).length ≤ xs.length + 1 := by
  have h := grow_ok xs b mr hs hb hm xs.length (Nat.le_refl _)
  have hv := h.val
  have hl := h.len
  have hc := h.carry
  rw [List.take_of_length_le (Nat.le_refl _)] at hv
  unfold growAll
  by_cases h0 : (growP xs b mr xs.length).2 = 0
  · rw [if_pos h0, List.append_nil]
    rw [h0, Nat.mul_zero, Nat.add_zero] at hv
    exact ⟨h.sm, hv, by omega⟩
  · rw [if_neg h0]
    refine ⟨small_append.2 ⟨h.sm, by intro x hx; simp at hx; omega⟩, ?_, by rw [List.length_append, hl]; exact Nat.le_refl _⟩
    rw [lv_append, hl]
    simp only [lv, Nat.mul_zero, Nat.add_zero]
    exact hv

theorem lw_lset (l : List Nat) (k y : Nat) : (lw l).set k (.int .u32 (y : Int)) = lw (l.set k y) := by simp [lw, List.map_set]
end Go.Proofs.YtlbbbafehhdpnaaGreatDoor

namespace Go.Proofs.YtlbbbafehhdpnaaGreatDoor
set_option linter.unusedVariables false
set_option linter.unusedSimpArgs false

/-- the number of a row of digits, the highest first. -/
def dvA (a : Nat) : List Nat → Nat
  | [] => a
  | d :: l => dvA (10 * a + d) l
def dv (l : List Nat) : Nat := dvA 0 l
def dec (N : Nat) : List Nat := if N < 10 then [N] else dec (N / 10) ++ [N % 10]
termination_by N
decreasing_by omega
def small10 (l : List Nat) : Prop := ∀ x ∈ l, x < 10
theorem small10_cons {a : Nat} {l : List Nat} : small10 (a :: l) ↔ a < 10 ∧ small10 l := by simp [small10]
theorem small10_append {a b : List Nat} : small10 (a ++ b) ↔ small10 a ∧ small10 b := by
  constructor
  · intro h; exact ⟨fun x hx => h x (by simp [hx]), fun x hx => h x (by simp [hx])⟩
  · rintro ⟨h1, h2⟩ x hx
    rcases List.mem_append.1 hx with hx | hx
    · exact h1 x hx
    · exact h2 x hx
theorem dvA_append (a : Nat) (l m : List Nat) : dvA a (l ++ m) = dvA (dvA a l) m := by
  induction l generalizing a with
  | nil => rfl
  | cons d l ih => exact ih _
theorem dvA_val (a : Nat) (l : List Nat) : dvA a l = a * 10 ^ l.length + dv l := by
  induction l generalizing a with
  | nil => simp [dvA, dv]
  | cons d l ih =>
    have h1 := ih (10 * a + d)
    have h2 := ih (10 * 0 + d)
    simp only [dv, dvA, List.length_cons, Nat.pow_succ] at *
    rw [h1, h2, Nat.add_mul, Nat.mul_zero, Nat.zero_add, Nat.mul_comm 10 a, Nat.mul_assoc a 10, Nat.mul_comm 10 (10 ^ l.length)]
    omega
theorem dv_append (l m : List Nat) : dv (l ++ m) = dv l * 10 ^ m.length + dv m := by
  unfold dv
  rw [dvA_append, dvA_val]
  rfl
theorem dv_lt (l : List Nat) (h : small10 l) : dv l < 10 ^ l.length := by
  induction l with
  | nil => decide
  | cons d l ih =>
    obtain ⟨h1, h2⟩ := small10_cons.1 h
    have h3 := ih h2
    show dvA (10 * 0 + d) l < _
    rw [dvA_val, List.length_cons, Nat.pow_succ, Nat.mul_zero, Nat.zero_add]
    have h4 : (d + 1) * 10 ^ l.length ≤ 10 * 10 ^ l.length := Nat.mul_le_mul_right _ h1
    rw [Nat.add_mul, Nat.one_mul] at h4
    omega
theorem dec_small (N : Nat) : small10 (dec N) := by
  induction N using Nat.strongRecOn with
  | ind N ih =>
    rw [dec]
    split
    · intro x hx; simp at hx; omega
    · exact small10_append.2 ⟨ih _ (by omega), by intro x hx; simp at hx; omega⟩
theorem dv_dec (N : Nat) : dv (dec N) = N := by
  induction N using Nat.strongRecOn with
  | ind N ih =>
    rw [dec]
    split
    · simp [dv, dvA]
    · rw [dv_append, ih _ (by omega)]
      simp [dv, dvA]
      omega
theorem dec_pos (N : Nat) : dec N ≠ [] := by
  rw [dec]
  split
  · simp
  · simp
/-- a row of digits without a nought in front is the one of its number. -/
theorem dec_dv (l : List Nat) (h : small10 l) (hne : l ≠ []) (h0 : l.getD 0 0 ≠ 0) : dec (dv l) = l := by
  obtain ⟨n, hn⟩ : ∃ n, l.length = n := ⟨_, rfl⟩
  induction n generalizing l with
  | zero => exact absurd (List.eq_nil_of_length_eq_zero hn) hne
  | succ n ih =>
    rcases List.eq_nil_or_concat l with rfl | ⟨m, d, rfl⟩
    · exact absurd rfl hne
    · rw [List.concat_eq_append] at *
      obtain ⟨h1, h2⟩ := small10_append.1 h
      have hd : d < 10 := h2 d (by simp)
      have e : dv (m ++ [d]) = dv m * 10 + d := by rw [dv_append]; simp [dv, dvA]
      rw [e]
      by_cases hm : m = []
      · subst hm
        rw [dec, if_pos (by simp [dv, dvA]; omega)]
        simp [dv, dvA]
      · have hm0 : m.getD 0 0 ≠ 0 := by
          cases m with
          | nil => exact absurd rfl hm
          | cons x m => simpa using h0
        have hml : m.length = n := by simpa using hn
        have ih' := ih m h1 hm hm0 hml
        have hpos : 0 < dv m := by
          cases m with
          | nil => exact absurd rfl hm
          | cons x m =>
            show 0 < dvA (10 * 0 + x) m
            rw [dvA_val]
            have : 0 < x := by simpa using Nat.pos_of_ne_zero hm0
            have := Nat.mul_pos (show 0 < 10 * 0 + x by omega) (Nat.pow_pos (n := m.length) (show 0 < 10 by decide))
            omega
        rw [dec, if_neg (by omega), show (dv m * 10 + d) / 10 = dv m by omega, show (dv m * 10 + d) % 10 = d by omega, ih']
/-- noughts in front taken off. -/
def trim0 : List Nat → List Nat
  | [] => []
  | d :: l => if d = 0 then trim0 l else d :: l
theorem dv_trim0 (l : List Nat) : dv (trim0 l) = dv l := by
  induction l with
  | nil => rfl
  | cons d l ih =>
    simp only [trim0]
    split
    · subst_vars; rw [ih]; rfl
    · rfl
theorem small10_trim0 {l : List Nat} (h : small10 l) : small10 (trim0 l) := by
  induction l with
  | nil => exact h
  | cons d l ih =>
    simp only [trim0]
    split
    · exact ih (small10_cons.1 h).2
    · exact h
theorem trim0_head (l : List Nat) (h : trim0 l ≠ []) : (trim0 l).getD 0 0 ≠ 0 := by
  induction l with
  | nil => exact absurd rfl h
  | cons d l ih =>
    simp only [trim0] at h ⊢
    split
    · rename_i hd; rw [if_pos hd] at h; exact ih h
    · rename_i hd; simpa using hd
theorem dec_trim0 (l : List Nat) (h : small10 l) (h0 : 0 < dv l) : trim0 l = dec (dv l) := by
  have hne : trim0 l ≠ [] := fun e => by
    have := dv_trim0 l
    rw [e] at this
    simp [dv, dvA] at this
    unfold dv at h0
    omega
  rw [← dv_trim0 l]
  exact (dec_dv _ (small10_trim0 h) hne (trim0_head l hne)).symm

/-- groups of nine digits, the lowest first. -/
def gvl : List Nat → Nat
  | [] => 0
  | g :: l => g + 1000000000 * gvl l
theorem gvl_append (l : List Nat) (g : Nat) : gvl (l ++ [g]) = gvl l + 1000000000 ^ l.length * g := by
  induction l with
  | nil => simp [gvl]
  | cons x l ih =>
    simp only [List.cons_append, gvl, ih, List.length_cons, Nat.pow_succ]
    rw [Nat.mul_add, ← Nat.mul_assoc, Nat.mul_comm 1000000000 (1000000000 ^ l.length)]
    omega
/-- the digits of a group from the power 10^j down. -/
def nines (g : Nat) : Nat → List Nat
  | 0 => []
  | j + 1 => g / 10 ^ j % 10 :: nines g j
theorem nines_len (g j : Nat) : (nines g j).length = j := by
  induction j with
  | zero => rfl
  | succ j ih => simp [nines, ih]
theorem nines_small (g j : Nat) : small10 (nines g j) := by
  induction j with
  | zero => intro x h; cases h
  | succ j ih => exact small10_cons.2 ⟨Nat.mod_lt _ (by decide), ih⟩
theorem dv_nines (g j : Nat) : dv (nines g j) = g % 10 ^ j := by
  induction j with
  | zero => simp [nines, dv, dvA, Nat.mod_one]
  | succ j ih =>
    show dvA (10 * 0 + g / 10 ^ j % 10) (nines g j) = _
    rw [dvA_val, ih, nines_len, Nat.pow_succ, Nat.mod_mul]
    generalize 10 ^ j = p at *
    rw [Nat.mul_zero, Nat.zero_add, Nat.mul_comm]
    omega
/-- all groups, the highest first. -/
def allNines : List Nat → List Nat
  | [] => []
  | g :: l => allNines l ++ nines g 9
theorem allNines_len (l : List Nat) : (allNines l).length = 9 * l.length := by
  induction l with
  | nil => rfl
  | cons g l ih => simp only [allNines, List.length_append, ih, nines_len, List.length_cons]; omega
theorem allNines_small (l : List Nat) : small10 (allNines l) := by
  induction l with
  | nil => intro x h; cases h
  | cons g l ih => exact small10_append.2 ⟨ih, nines_small g 9⟩
theorem dv_allNines (l : List Nat) (h : ∀ g ∈ l, g < 1000000000) : dv (allNines l) = gvl l := by
  induction l with
  | nil => rfl
  | cons g l ih =>
    simp only [allNines, gvl]
    rw [dv_append, ih (fun x hx => h x (by simp [hx])), dv_nines, nines_len]
    have hg := h g (by simp)
    have e : 10 ^ 9 = 1000000000 := by decide
    rw [e, Nat.mod_eq_of_lt hg, Nat.mul_comm]
    omega
theorem allNines_drop (l : List Nat) (i : Nat) (h : i < l.length) : allNines (l.drop i) = allNines (l.drop (i + 1)) ++ nines (l.getD i 0) 9 := by
  rw [List.drop_eq_getElem_cons h]
  simp only [allNines]
  rw [List.getD_eq_getElem?_getD, List.getElem?_eq_getElem h]
  rfl
end Go.Proofs.YtlbbbafehhdpnaaGreatDoor

namespace Go.Proofs.YtlbbbafehhdpnaaGreatDoor
open Go.RowKit
set_option linter.unusedVariables false
set_option linter.unusedSimpArgs false

/-- the text of a row of digits. -/
def txt (l : List Nat) : ByteArray := ⟨(l.map fun d => UInt8.ofNat (48 + d)).toArray⟩
theorem txt_size (l : List Nat) : (txt l).size = l.length := by
  show (l.map fun d => UInt8.ofNat (48 + d)).toArray.size = _
  simp
theorem txt_get (l : List Nat) (h : small10 l) (i : Nat) (hi : i < (txt l).size) : ((txt l)[i]'hi).toNat = 48 + l.getD i 0 := by
  have hi' : i < l.length := by rw [txt_size] at hi; exact hi
  show ((l.map fun d => UInt8.ofNat (48 + d)).toArray[i]'(by simpa using hi')).toNat = _
  have h1 := h l[i] (List.getElem_mem _)
  rw [List.getElem_toArray, List.getElem_map, List.getD_eq_getElem?_getD, List.getElem?_eq_getElem hi', UInt8.toNat_ofNat']
  show (48 + l[i]) % 2 ^ 8 = 48 + l[i]
  omega
theorem own_iter {w : World} {B : Nat} {e : TypeId} {size n : Nat} {v : Value} {xs : List Value} (h : w.ownsRow B e size v n xs) {g : Nat} {s : ByteArray} {p : Nat} (hg : w.heap[g]? = some (.stringIter s p)) : v.ownBlock ≠ some g := by
  rcases h.2 with ⟨rfl, _⟩ | ⟨g', cap, cur, rfl, _, hh, _⟩
  · simp [Value.ownBlock]
  · intro he
    have : g' = g := by simpa [Value.ownBlock] using he
    subst this
    rw [hh] at hg
    cases hg
theorem own_iterAt {w : World} {B : Nat} {e : TypeId} {size n : Nat} {v : Value} {xs : List Value} (h : w.ownsRow B e size v n xs) {g : Nat} {s : ByteArray} {p : Nat} (hg : w.heap[g]? = some (.stringIter s p)) (p' : Nat) : (w.iterAt g s p').ownsRow B e size v n xs := by
  have hne := own_iter h hg
  refine ⟨h.1, ?_⟩
  rcases h.2 with h' | ⟨g', cap, cur, hv, hb, hh, r⟩
  · exact .inl h'
  · refine .inr ⟨g', cap, cur, hv, hb, ?_, r⟩
    rw [Lib.iterAt_other w g g' s p' (fun e => hne (by rw [hv, e]; rfl))]
    exact hh
theorem getD_small10 {l : List Nat} (h : small10 l) (i : Nat) : l.getD i 0 < 10 := by
  rw [List.getD_eq_getElem?_getD]
  rcases Nat.lt_or_ge i l.length with hi | hi
  · rw [List.getElem?_eq_getElem hi]; exact h _ (List.getElem_mem _)
  · rw [List.getElem?_eq_none hi]; decide
def itPos (w : World) (k : Nat) : Nat := match w.heap[k]? with
  | some (.stringIter _ p) => p
  | _ => 0
theorem itPos_of {w : World} {k : Nat} {s : ByteArray} {p : Nat} (h : w.heap[k]? = some (.stringIter s p)) : itPos w k = p := by
  unfold itPos; rw [h]
theorem dv_take_succ (l : List Nat) (q : Nat) (h : q < l.length) : dv (l.take (q + 1)) = dv (l.take q) * 10 + l.getD q 0 := by
  rw [List.take_succ_eq_append_getElem h, dv_append, List.getD_eq_getElem?_getD, List.getElem?_eq_getElem h]
  simp [dv, dvA]

end Go.Proofs.YtlbbbafehhdpnaaGreatDoor
