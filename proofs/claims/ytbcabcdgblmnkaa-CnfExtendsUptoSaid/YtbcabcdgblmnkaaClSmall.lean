/- Contracts of package clause and of its reference: what only reads. -/
import Derived.Test.YtbcabcdgblmnkaaClMath
import Derived.Test.YtbcabcdgblmnkaaBools
import Derived.Test.YtbcabcdgblmnkaaFrames
import Derived.BigQuiet
import Derived.Deep.QuietTactic
namespace Go.Proofs.Ytbcabcdgblmnkaa
open Go.RowKit
set_option linter.unusedVariables false
set_option linter.unusedSimpArgs false

def ints (xs : List Int) : List Value := xs.map (Value.int .i64)
theorem ints_length (xs : List Int) : (ints xs).length = xs.length := by simp [ints]
theorem Rd.int {w : World} {A : Option Addr} {n : Nat} {xs : List Int} (h : Rd w 1 A n (ints xs)) (k : Nat) (hk : k < n) (hl : xs.length = n) :
    ∃ b off, A = some ⟨b, off, none⟩ ∧ w.cell? ⟨b, off + k, none⟩ = some (.int .i64 (xs.getD k 0)) := by
  obtain ⟨b, off, u, e, hu, hc⟩ := h.at_ hk
  refine ⟨b, off, e, ?_⟩
  rw [hc]
  simp only [ints, List.getElem?_map] at hu
  rw [List.getElem?_eq_getElem (by omega)] at hu
  simp at hu
  rw [← hu, List.getD_eq_getElem?_getD, List.getElem?_eq_getElem (by omega)]
  rfl
/-- a literal: neither 0 nor the least number. -/
def IsLit (l : Int) : Prop := l ≠ 0 ∧ -9223372036854775807 ≤ l ∧ l ≤ 9223372036854775807
instance (l : Int) : Decidable (IsLit l) := by unfold IsLit; infer_instance
def IsI64 (l : Int) : Prop := -9223372036854775808 ≤ l ∧ l ≤ 9223372036854775807

theorem size_lit (l : Int) (w : World) (h1 : -9223372036854775807 ≤ l) (h2 : l ≤ 9223372036854775807) : Calls Try.prog 43 #[.int .i64 l] w fun e w' => e = .returned (.int .i64 (l.natAbs : Nat)) ∧ w' = w := by
  by_cases h : l < 0
  · obtain ⟨m, rfl⟩ : ∃ m : Int, l = -m := ⟨-l, by omega⟩
    have hm : 0 < m := by omega
    have hm' : m ≤ 9223372036854775807 := by omega
    have e : ((-m).natAbs : Int) = m := by omega
    rw [e]
    clear h1 h2 e
    go_enter Try.func43, Try.ntmps43
    go_wp2_with fail
    go_ret
    exact ⟨by simp <;> omega, rfl⟩
  · have e : (l.natAbs : Int) = l := by omega
    rw [e]
    clear e
    go_enter Try.func43, Try.ntmps43
    go_wp2_with fail
    go_ret
    exact ⟨by simp <;> omega, rfl⟩
theorem size_min (w : World) : Calls Try.prog 43 #[.int .i64 (-9223372036854775808)] w fun e w' => e = .returned (.int .i64 0) ∧ w' = w := by
  have hn : wrap64 9223372036854775808 < 0 := by unfold wrap64; decide
  go_enter Try.func43, Try.ntmps43
  go_wp2_with fail
  go_ret
  exact ⟨rfl, rfl⟩
/-- what slices.SortFunc asks: below 0, above 0, 0. -/
def ordI (a b : Int) : Int := if a.natAbs ≠ b.natAbs then (a.natAbs : Int) - b.natAbs else if b < a then -1 else if a < b then 1 else 0
theorem ordI_lt (a b : Int) : decide (ordI a b < 0) = ahd a b := by
  unfold ordI ahd
  rw [decide_eq_decide]
  split
  · constructor
    · intro h; exact .inl (by omega)
    · intro h; omega
  · split
    · constructor
      · intro h; exact .inr ⟨by omega, by omega⟩
      · intro h; decide
    · split
      · constructor
        · intro h; omega
        · intro h; omega
      · constructor
        · intro h; omega
        · intro h; omega
theorem order_lit (a b : Int) (w : World) (ha : IsLit a) (hb : IsLit b) : Calls Try.prog 46 #[.int .i64 a, .int .i64 b] w fun e w' => e = .returned (.int .i64 (ordI a b)) ∧ w' = w := by
  obtain ⟨_, ha1, ha2⟩ := ha
  obtain ⟨_, hb1, hb2⟩ := hb
  have hs := fun l w h1 h2 => size_lit l w h1 h2
  have HA := Lib.hid (fun w => hs a w ha1 ha2)
  have HB := Lib.hid (fun w => hs b w hb1 hb2)
  clear hs
  unfold ordI
  have ea : a.natAbs ≤ 9223372036854775807 := by omega
  have eb : b.natAbs ≤ 9223372036854775807 := by omega
  by_cases h : a.natAbs = b.natAbs
  · rw [if_neg (by simpa using h)]
    have hz : (a.natAbs : Int) = b.natAbs := by omega
    have HA2 := HA.out
    rw [hz] at HA2
    generalize b.natAbs = y at *
    clear h hz HA
    by_cases h1 : b < a
    · rw [if_pos h1]
      go_enter Try.func46, Try.ntmps46
      go_wp2_with (first | (go_at_call 43; with_reducible refine (HA2 _).mono ?_; rintro e w' ⟨rfl, hw⟩; obtain rfl := hw.symm) | (go_at_call 43; with_reducible refine (HB.out _).mono ?_; rintro e w' ⟨rfl, hw⟩; obtain rfl := hw.symm))
      go_ret
      exact ⟨rfl, rfl⟩
    · rw [if_neg h1]
      by_cases h2 : a < b
      · rw [if_pos h2]
        go_enter Try.func46, Try.ntmps46
        go_wp2_with (first | (go_at_call 43; with_reducible refine (HA2 _).mono ?_; rintro e w' ⟨rfl, hw⟩; obtain rfl := hw.symm) | (go_at_call 43; with_reducible refine (HB.out _).mono ?_; rintro e w' ⟨rfl, hw⟩; obtain rfl := hw.symm))
        go_ret
        exact ⟨rfl, rfl⟩
      · rw [if_neg h2]
        go_enter Try.func46, Try.ntmps46
        go_wp2_with (first | (go_at_call 43; with_reducible refine (HA2 _).mono ?_; rintro e w' ⟨rfl, hw⟩; obtain rfl := hw.symm) | (go_at_call 43; with_reducible refine (HB.out _).mono ?_; rintro e w' ⟨rfl, hw⟩; obtain rfl := hw.symm))
        go_ret
        exact ⟨rfl, rfl⟩
  · rw [if_pos h]
    have hz : ((a.natAbs : Int) == b.natAbs) = false := by simpa using (by omega : ¬ (a.natAbs : Int) = b.natAbs)
    have hz' : ((a.natAbs : Int) != b.natAbs) = true := by simpa using (by omega : ¬ (a.natAbs : Int) = b.natAbs)
    generalize a.natAbs = x at *
    generalize b.natAbs = y at *
    go_enter Try.func46, Try.ntmps46
    go_wp2_with (first | (go_at_call 43; with_reducible refine (HA.out _).mono ?_; rintro e w' ⟨rfl, hw⟩; obtain rfl := hw.symm) | (go_at_call 43; with_reducible refine (HB.out _).mono ?_; rintro e w' ⟨rfl, hw⟩; obtain rfl := hw.symm))
    go_ret
    exact ⟨rfl, rfl⟩
end Go.Proofs.Ytbcabcdgblmnkaa
