/- Contracts of the reference of clauses and of slices.Contains: what only reads. -/
import Derived.Test.YtbcabcdgblmnkaaClSmall
namespace Go.Proofs.Ytbcabcdgblmnkaa
open Go.RowKit
set_option linter.unusedVariables false
set_option linter.unusedSimpArgs false

theorem drop_consI {α : Type} (l : List α) (i : Nat) (x : α) (h : l[i]? = some x) : l.drop i = x :: l.drop (i + 1) := by
  obtain ⟨hi, e⟩ := List.getElem?_eq_some_iff.1 h
  rw [List.drop_eq_getElem_cons hi, e]
theorem drop_getD (l : List Int) (i : Nat) (h : i < l.length) : l.drop i = l.getD i 0 :: l.drop (i + 1) := by
  refine drop_consI l i _ ?_
  rw [List.getD_eq_getElem?_getD, List.getElem?_eq_getElem h]; rfl
def hasB (xs : List Int) (l : Int) : Bool := decide (l ∈ xs)
theorem hasB_nil (l : Int) : hasB [] l = false := by simp [hasB]
theorem hasB_cons (m l : Int) (xs : List Int) : hasB (m :: xs) l = if m = l then true else hasB xs l := by
  unfold hasB
  by_cases h : m = l
  · rw [if_pos h]; simp [h]
  · rw [if_neg h, decide_eq_decide, List.mem_cons]
    exact ⟨fun h' => h'.resolve_left (fun e => h e.symm), .inr⟩

set_option maxRecDepth 100000 in
theorem has_any (xs : List Int) (A : Option Addr) (n c : Nat) (l : Int) (w : World) (hl : xs.length = n) (hc : n ≤ maxLen) (hr : Rd w 1 A n (ints xs)) :
    Calls Try.prog 26 #[.slice A n c, .int .i64 l] w fun e w' => e = .returned (.bool (hasB xs l)) ∧ w' = w := by
  unfold maxLen at hc
  generalize hC : hasB xs l = C
  have HC := Lib.hid hC
  have HR := Lib.hid hr
  clear hC hr
  go_enter Try.func26, Try.ntmps26
  go_wp2_with fail
  go_loop [9] (fun x => ∃ (i : Nat), i ≤ n ∧ x = .int .i64 i ∧ hasB (xs.drop i) l = C) (fun x => n - (intOf x).toNat)
  case atStart => exact ⟨0, Nat.zero_le _, rfl, by rw [List.drop_zero]; exact HC.out⟩
  case round =>
    obtain ⟨i, hi, rfl, hC⟩ := hrel
    by_cases hlt : i < n
    · obtain ⟨b, off, rfl, hc⟩ := HR.out.int i hlt hl
      rw [drop_getD xs i (by omega), hasB_cons] at hC
      generalize xs.getD i 0 = m at *
      by_cases hm : m = l
      · rw [if_pos hm] at hC
        subst hC
        subst hm
        go_wp2_with fail
        go_ret
        exact ⟨rfl, rfl⟩
      · rw [if_neg hm] at hC
        have hm' : (m == l) = false := by simpa using hm
        have HCC := Lib.hid hC
        clear hC
        go_wp2_with fail
        go_round
        case rel => exact ⟨i + 1, by omega, by go_num, HCC.out⟩
        case measure => simp [intOf]; omega
    · obtain rfl : i = n := by omega
      rw [List.drop_of_length_le (by omega), hasB_nil] at hC
      subst hC
      go_wp2_with fail
      go_ret
      exact ⟨rfl, rfl⟩
set_option maxRecDepth 100000 in
theorem index_any (xs : List Int) (A : Option Addr) (n c : Nat) (l : Int) (w : World) (hl : xs.length = n) (hc : n ≤ maxLen) (hr : Rd w 1 A n (ints xs)) :
    Calls Try.prog 64 #[.slice A n c, .int .i64 l] w fun e w' => ∃ z : Int, e = .returned (.int .i64 z) ∧ decide (0 ≤ z) = hasB xs l ∧ w' = w := by
  unfold maxLen at hc
  generalize hC : hasB xs l = C
  have HC := Lib.hid hC
  have HR := Lib.hid hr
  clear hC hr
  go_enter Try.func64, Try.ntmps64
  go_wp2_with fail
  go_loop [8] (fun x => ∃ (i : Nat), i ≤ n ∧ x = .int .i64 i ∧ hasB (xs.drop i) l = C) (fun x => n - (intOf x).toNat)
  case atStart => exact ⟨0, Nat.zero_le _, rfl, by rw [List.drop_zero]; exact HC.out⟩
  case round =>
    obtain ⟨i, hi, rfl, hC⟩ := hrel
    by_cases hlt : i < n
    · obtain ⟨b, off, rfl, hc⟩ := HR.out.int i hlt hl
      rw [drop_getD xs i (by omega), hasB_cons] at hC
      generalize xs.getD i 0 = m at *
      by_cases hm : m = l
      · rw [if_pos hm] at hC
        subst hC
        subst hm
        go_wp2_with fail
        go_ret
        exact ⟨_, rfl, by simp, rfl⟩
      · rw [if_neg hm] at hC
        have hm' : (l == m) = false := by simpa using fun e : l = m => hm e.symm
        have HCC := Lib.hid hC
        clear hC
        go_wp2_with fail
        go_round
        case rel => exact ⟨i + 1, by omega, by go_num, HCC.out⟩
        case measure => simp [intOf]; omega
    · obtain rfl : i = n := by omega
      rw [List.drop_of_length_le (by omega), hasB_nil] at hC
      subst hC
      go_wp2_with fail
      go_ret
      exact ⟨-1, rfl, by simp, rfl⟩
set_option maxRecDepth 100000 in
theorem contains_any (xs : List Int) (A : Option Addr) (n c : Nat) (l : Int) (w : World) (hl : xs.length = n) (hc : n ≤ maxLen) (hr : Rd w 1 A n (ints xs)) :
    Calls Try.prog 41 #[.slice A n c, .int .i64 l] w fun e w' => e = .returned (.bool (hasB xs l)) ∧ w' = w := by
  have h1 := index_any xs A n c l w hl hc hr
  clear hr hl hc
  generalize hasB xs l = C at *
  go_enter Try.func41, Try.ntmps41
  go_wp2_with (go_at_call 64; refine h1.mono ?_; rintro e w' ⟨z, rfl, hz, hw⟩; obtain rfl := hw.symm; have HZ := Lib.hid hz; clear hz)
  go_ret
  exact ⟨ret_bool HZ.out, rfl⟩

def goodB : List Int → Bool
  | [] => true
  | l :: ls => if l = 0 then false else if l = -9223372036854775808 then false else goodB ls
theorem goodB_nil : goodB [] = true := rfl
theorem goodB_cons (l : Int) (ls : List Int) : goodB (l :: ls) = if l = 0 then false else if l = -9223372036854775808 then false else goodB ls := rfl
set_option maxRecDepth 100000 in
theorem good_any (xs : List Int) (A : Option Addr) (n c : Nat) (w : World) (hl : xs.length = n) (hc : n ≤ maxLen) (hr : Rd w 1 A n (ints xs)) :
    Calls Try.prog 15 #[.slice A n c] w fun e w' => e = .returned (.bool (goodB xs)) ∧ w' = w := by
  unfold maxLen at hc
  generalize hC : goodB xs = C
  have HC := Lib.hid hC
  have HR := Lib.hid hr
  clear hC hr
  go_enter Try.func15, Try.ntmps15
  go_wp2_with fail
  go_loop [7] (fun x => ∃ (i : Nat), i ≤ n ∧ x = .int .i64 i ∧ goodB (xs.drop i) = C) (fun x => n - (intOf x).toNat)
  case atStart => exact ⟨0, Nat.zero_le _, rfl, by rw [List.drop_zero]; exact HC.out⟩
  case round =>
    obtain ⟨i, hi, rfl, hC⟩ := hrel
    by_cases hlt : i < n
    · obtain ⟨b, off, rfl, hc⟩ := HR.out.int i hlt hl
      rw [drop_getD xs i (by omega), goodB_cons] at hC
      generalize xs.getD i 0 = m at *
      by_cases hm : m = 0
      · rw [if_pos hm] at hC
        subst hC
        subst hm
        go_wp2_with fail
        go_ret
        exact ⟨rfl, rfl⟩
      · rw [if_neg hm] at hC
        have hm' : (m == 0) = false := by simpa using hm
        by_cases hm2 : m = -9223372036854775808
        · rw [if_pos hm2] at hC
          subst hC
          subst hm2
          go_wp2_with fail
          go_ret
          exact ⟨rfl, rfl⟩
        · rw [if_neg hm2] at hC
          have hm2' : (m == -9223372036854775808) = false := by simpa using hm2
          have HCC := Lib.hid hC
          clear hC
          go_wp2_with fail
          go_round
          case rel => exact ⟨i + 1, by omega, by go_num, HCC.out⟩
          case measure => simp [intOf]; omega
    · obtain rfl : i = n := by omega
      rw [List.drop_of_length_le (by omega), goodB_nil] at hC
      subst hC
      go_wp2_with fail
      go_ret
      exact ⟨rfl, rfl⟩
def sameB : List Int → List Int → Bool
  | [], [] => true
  | x :: xs, y :: ys => if x = y then sameB xs ys else false
  | _, _ => false
theorem sameB_eq (xs ys : List Int) : sameB xs ys = decide (xs = ys) := by
  induction xs generalizing ys with
  | nil => cases ys <;> simp [sameB]
  | cons x xs ih =>
    cases ys with
    | nil => simp [sameB]
    | cons y ys =>
      rw [sameB, ih]
      by_cases h : x = y
      · rw [if_pos h]; simp [h]
      · rw [if_neg h]; simp [h]
set_option maxRecDepth 100000 in
theorem same_any (xs ys : List Int) (A A2 : Option Addr) (n c m c2 : Nat) (w : World) (hl : xs.length = n) (hc : n ≤ maxLen) (hr : Rd w 1 A n (ints xs)) (hl2 : ys.length = m) (hc2 : m ≤ maxLen) (hr2 : Rd w 1 A2 m (ints ys)) :
    Calls Try.prog 19 #[.slice A n c, .slice A2 m c2] w fun e w' => e = .returned (.bool (decide (xs = ys))) ∧ ∃ q, w' = w.drewN q := by
  rw [← sameB_eq]
  unfold maxLen at hc hc2
  by_cases hnm : n = m
  · subst hnm
    have hb : ((n : Int) != (n : Int)) = false := by simp
    generalize hC : sameB xs ys = C
    have HC := Lib.hid hC
    have HR := Lib.hid hr
    have HR2 := Lib.hid hr2
    clear hC hr hr2
    go_enter Try.func19, Try.ntmps19
    go_wp2_with fail
    go_loopw [13] (fun x wr => ∃ (i q : Nat), i ≤ n ∧ x = .int .i64 i ∧ sameB (xs.drop i) (ys.drop i) = C ∧ wr = w.drewN q) (fun x _ => n - (intOf x).toNat)
    case atStart => exact ⟨0, 0, Nat.zero_le _, rfl, by rw [List.drop_zero, List.drop_zero]; exact HC.out, rfl⟩
    case round =>
      obtain ⟨i, q, hi, rfl, hC, rfl⟩ := hrel
      by_cases hlt : i < n
      · obtain ⟨b, off, rfl, hc⟩ := HR.out.int i hlt hl
        obtain ⟨b2, off2, rfl, hc2⟩ := HR2.out.int i hlt hl2
        rw [drop_getD xs i (by omega), drop_getD ys i (by omega), sameB] at hC
        generalize xs.getD i 0 = x at *
        generalize ys.getD i 0 = y at *
        have hi0 : (0 : Int) ≤ (i : Int) := by omega
        have hi1 : (i : Int) < (n : Int) := by omega
        by_cases hm : x = y
        · rw [if_pos hm] at hC
          subst hm
          have HCC := Lib.hid hC
          clear hC
          go_wp2_with fail
          go_quiet (fail)
          go_wp2_with fail
          refine ⟨⟨i + 1, q + nq, by omega, by go_num, HCC.out, rfl⟩, by simp [intOf]; omega⟩
        · rw [if_neg hm] at hC
          subst hC
          have hm' : (x != y) = true := by simpa using hm
          have hm2' : (x == y) = false := by simpa using hm
          go_wp2_with fail
          go_quiet (fail)
          go_wp2_with fail
          go_ret
          exact ⟨rfl, q + nq, by simp⟩
      · obtain rfl : i = n := by omega
        rw [List.drop_of_length_le (by omega), List.drop_of_length_le (by omega), sameB] at hC
        subst hC
        go_wp2_with fail
        go_ret
        exact ⟨rfl, q, rfl⟩
  · have hb : ((n : Int) != (m : Int)) = true := by simpa using (by omega : ¬ (n : Int) = m)
    have hne : sameB xs ys = false := by
      rw [sameB_eq, decide_eq_false_iff_not]
      rintro rfl
      omega
    rw [hne]
    go_enter Try.func19, Try.ntmps19
    go_wp2_with fail
    go_ret
    exact ⟨rfl, 0, rfl⟩
set_option maxRecDepth 100000 in
theorem ahead_lit (a b : Int) (w : World) (ha : IsLit a) (hb : IsLit b) : Calls Try.prog 42 #[.int .i64 a, .int .i64 b] w fun e w' => e = .returned (.bool (ahd a b)) ∧ w' = w := by
  obtain ⟨ha0, ha1, ha2⟩ := ha
  obtain ⟨hb0, hb1, hb2⟩ := hb
  have key : ahd a b = if a.natAbs < b.natAbs then true else if a.natAbs = b.natAbs then decide (b < a) else false := by
    unfold ahd
    by_cases h1 : a.natAbs < b.natAbs
    · rw [if_pos h1]; simp [h1]
    · rw [if_neg h1]
      by_cases h2 : a.natAbs = b.natAbs
      · rw [if_pos h2]; simp [h2]
      · rw [if_neg h2]; simp [h1, h2]
  rw [key]
  clear key
  have main : ∀ (va vb x y : Int), (va = x ∨ va = -x) → (vb = y ∨ vb = -y) → 0 < x → 0 < y → x ≤ 9223372036854775807 → y ≤ 9223372036854775807 → Calls Try.prog 42 #[.int .i64 va, .int .i64 vb] w fun e w' =>
      e = .returned (.bool (if x < y then true else if x = y then decide (vb < va) else false)) ∧ w' = w := by
    intro va vb x y hva hvb hx hy hx2 hy2
    rcases Int.lt_trichotomy x y with h | h | h
    · rw [if_pos h]
      have h' : decide (x < y) = true := decide_eq_true h
      rcases hva with rfl | rfl <;> rcases hvb with rfl | rfl
      all_goals
        go_enter Try.func42, Try.ntmps42
        go_wp2_with fail
        all_goals (first | (go_ret; exact ⟨rfl, rfl⟩) | (exfalso; omega))
    · subst h
      rw [if_neg (by omega), if_pos rfl]
      have h' : decide (x < x) = false := decide_eq_false (by omega)
      have h2' : (x == x) = true := beq_self_eq_true x
      rcases hva with rfl | rfl <;> rcases hvb with rfl | rfl
      all_goals
        go_enter Try.func42, Try.ntmps42
        go_wp2_with fail
        all_goals (first | (go_ret; exact ⟨ret_bool (by simp <;> omega), rfl⟩) | (exfalso; omega))
    · rw [if_neg (by omega), if_neg (by omega)]
      have h' : decide (x < y) = false := decide_eq_false (by omega)
      have h2' : (x == y) = false := by rw [beq_eq_false_iff_ne]; omega
      rcases hva with rfl | rfl <;> rcases hvb with rfl | rfl
      all_goals
        go_enter Try.func42, Try.ntmps42
        go_wp2_with fail
        all_goals (first | (go_ret; exact ⟨rfl, rfl⟩) | (exfalso; omega))
  have h := main a b a.natAbs b.natAbs (by omega) (by omega) (by omega) (by omega) (by omega) (by omega)
  refine h.mono fun e w' ⟨h1, h2⟩ => ⟨h1.trans (ret_bool ?_), h2⟩
  by_cases h3 : a.natAbs < b.natAbs
  · rw [if_pos h3, if_pos (by omega)]
  · rw [if_neg h3, if_neg (by omega)]
    by_cases h4 : a.natAbs = b.natAbs
    · rw [if_pos h4, if_pos (by omega)]
    · rw [if_neg h4, if_neg (by omega)]
end Go.Proofs.Ytbcabcdgblmnkaa
