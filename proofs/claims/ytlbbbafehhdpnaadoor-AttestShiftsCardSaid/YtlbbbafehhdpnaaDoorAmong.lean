/- attesttop.among: the remainder, never below nought. -/
import Derived.Test.YtlbbbafehhdpnaaDoorRows
import Derived.Test.YtlbbbafehhdpnaaDoorMem2
namespace Go.Proofs.YtlbbbafehhdpnaaDoor
open Go.RowKit
theorem among_any (n m : Int) (w : World) (hm : 0 < m) (hm2 : m ≤ 4611686018427387904) (hn1 : -9223372036854775808 ≤ n) (hn2 : n ≤ 9223372036854775807) :
    Calls Tryd.prog 8 #[.int .i64 n, .int .i64 m] w fun e w' => e = .returned (.int .i64 (n % m)) ∧ w = w' := by
  have h0 : 0 ≤ n % m := Int.emod_nonneg _ (by omega)
  have h1 : n % m < m := Int.emod_lt_of_pos _ hm
  have hcase : (0 ≤ n.tmod m ∧ n.tmod m = n % m) ∨ (n.tmod m < 0 ∧ n.tmod m + m = n % m) := by
    rw [Int.tmod_eq_emod]
    have e : ((m.natAbs : Nat) : Int) = m := by omega
    split
    · left; omega
    · right; rw [e]; omega
  generalize n % m = r at *
  generalize ht : n.tmod m = T at *
  have HT := Lib.hid ht; clear ht
  have hrg : -4611686018427387904 ≤ T ∧ T < 4611686018427387904 := by omega
  obtain ⟨hr1, hr2⟩ := hrg
  have hw : wrap64 T = T := by unfold wrap64; omega
  have ht := HT.out
  have hne : (m == 0) = false := by rw [beq_eq_false_iff_ne]; omega
  rcases hcase with ⟨hp, hq⟩ | ⟨hp, hq⟩
  · subst hq
    go_enter Tryd.func8, Tryd.ntmps8
    go_wp2_with fail
    go_ret
    exact ⟨rfl, rfl⟩
  · subst hq
    go_enter Tryd.func8, Tryd.ntmps8
    go_wp2_with fail
    go_ret
    exact ⟨rfl, rfl⟩
end Go.Proofs.YtlbbbafehhdpnaaDoor
