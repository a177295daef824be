/- Contracts of package attesttop: same, few. -/
import Derived.Test.YtlbbbafehhdpnaaDoorLimbD
import Derived.Deep.DeepCutAuto
namespace Go.Proofs.YtlbbbafehhdpnaaDoor
open Go.RowKit
set_option linter.unusedVariables false
set_option linter.unusedSimpArgs false

theorem cmp_zero (a b : Nat) : (cmpN a b == 0) = decide (a = b) := by
  unfold cmpN
  by_cases h1 : a < b
  · rw [if_pos h1, decide_eq_false (by omega)]; rfl
  · rw [if_neg h1]
    by_cases h2 : a = b
    · rw [if_pos h2, decide_eq_true h2]; rfl
    · rw [if_neg h2, decide_eq_false h2]; rfl
set_option maxRecDepth 100000 in
theorem tsame_any (xs ys : List Nat) (A A2 : Option Addr) (n c n2 c2 : Nat) (w : World) (hl : xs.length = n) (hnc : n ≤ c) (hn : n ≤ 1099511627776) (hr : Rd w 1 A n (lw xs)) (hs : small xs) (hl2 : ys.length = n2) (hnc2 : n2 ≤ c2) (hn2 : n2 ≤ 1099511627776) (hr2 : Rd w 1 A2 n2 (lw ys)) (hs2 : small ys) :
    Calls Tryd.prog 6 #[.slice A n c, .slice A2 n2 c2] w fun e w' => e = .returned (.bool (decide (lv xs = lv ys) && decide (n = n2))) ∧ ∃ q, w' = w.drewN q := by
  have hc := lcmp_any xs ys A A2 n c n2 c2 w hl hnc hn hr hs hl2 hnc2 hn2 hr2 hs2
  have hz := cmp_zero (lv xs) (lv ys)
  generalize cmpN (lv xs) (lv ys) = r at *
  clear hr hs hr2 hs2
  by_cases h : lv xs = lv ys
  · rw [decide_eq_true h] at hz
    rw [decide_eq_true h, Bool.true_and]
    clear h
    by_cases h2 : n = n2
    · have h2' : ((n : Int) == (n2 : Int)) = true := by simp [h2]
      rw [decide_eq_true h2]
      clear h2
      go_enter Tryd.func6, Tryd.ntmps6
      go_wp2_with (go_at_call 14; refine hc.mono ?_; clear hc; rintro e w1 ⟨rfl, q, rfl⟩)
      go_ret
      exact ⟨rfl, q, rfl⟩
    · have h2' : ((n : Int) == (n2 : Int)) = false := by rw [beq_eq_false_iff_ne]; omega
      rw [decide_eq_false h2]
      clear h2
      go_enter Tryd.func6, Tryd.ntmps6
      go_wp2_with (go_at_call 14; refine hc.mono ?_; clear hc; rintro e w1 ⟨rfl, q, rfl⟩)
      go_ret
      exact ⟨rfl, q, rfl⟩
  · rw [decide_eq_false h] at hz
    rw [decide_eq_false h, Bool.false_and]
    clear h
    go_enter Tryd.func6, Tryd.ntmps6
    go_wp2_with (go_at_call 14; refine hc.mono ?_; clear hc; rintro e w1 ⟨rfl, q, rfl⟩)
    go_ret
    exact ⟨rfl, q, rfl⟩
set_option maxRecDepth 100000 in
theorem tfew_any (xs : List Nat) (A : Option Addr) (n c m : Nat) (w : World) (hl : xs.length = n) (hnc : n ≤ c) (hn : n ≤ 35184372088000) (hm : m ≤ 1000000) (hr : Rd w 1 A n (lw xs)) :
    Calls Tryd.prog 7 #[.slice A n c, .int .i64 (m : Int)] w fun e w' => ∃ v, e = .returned v ∧ w'.ownsRow w.heap.size 25 1 v (xs.take m).length (lw (xs.take m)) ∧ Below w.heap.size w w' := by
  obtain ⟨i0, hi, hz0, hz1, hz2⟩ := info_parts info_u32
  by_cases h : m < n
  · have h1 : (m : Int) < (n : Int) := by omega
    have hrt := hr.take (show m ≤ n by omega)
    rw [lw_take] at hrt
    have hln : (xs.take m).length = m := by rw [List.length_take]; omega
    have hmc : m ≤ c := by omega
    rw [hln]
    generalize xs.take m = ys at *
    have HR := Lib.hid hrt
    clear h hr hrt
    go_enter Tryd.func7, Tryd.ntmps7
    go_wp2_with (at_builtin; refine appR w.heap.size w (w.alloc (.cells #[] 25)) 25 rfl _ _ 22 rfl i0 (.int .u32 0) 4 Tryd.underlying22 hi hz0 hz1 hz2 rfl (by decide) _ 0 [] rfl (Nat.le_refl _) (own_empty _ _ _ (Nat.le_refl _)) ((Below.refl _ _).alloc (Nat.le_refl _) _) A m c (lw ys) rfl (HR.out.alloc _) (one32 _) (by omega) ?_)
    intro v8 w8 ho8 hx _
    go_wp2_with fail
    go_ret
    exact ⟨_, rfl, by simpa using ho8, hx⟩
  · have h1 : ¬ (m : Int) < (n : Int) := by omega
    rw [List.take_of_length_le (by omega), hl]
    have HR := Lib.hid hr
    clear h hr
    go_enter Tryd.func7, Tryd.ntmps7
    go_wp2_with (at_builtin; refine appR w.heap.size w (w.alloc (.cells #[] 25)) 25 rfl _ _ 22 rfl i0 (.int .u32 0) 4 Tryd.underlying22 hi hz0 hz1 hz2 rfl (by decide) _ 0 [] rfl (Nat.le_refl _) (own_empty _ _ _ (Nat.le_refl _)) ((Below.refl _ _).alloc (Nat.le_refl _) _) A n c (lw xs) rfl (HR.out.alloc _) (one32 _) (by omega) ?_)
    intro v8 w8 ho8 hx _
    go_wp2_with fail
    go_ret
    exact ⟨_, rfl, by simpa using ho8, hx⟩
end Go.Proofs.YtlbbbafehhdpnaaDoor
