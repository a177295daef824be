/- A table of variables 0, 1, .. as many as it takes. No program in sight. -/
import Derived.Test.YtdpnififbpoagaaNodeMeans2
import Derived.Test.YtdpnififbpoagaaNodeReach2
import Derived.Test.YtdpnififbpoagaaRefNode
namespace Go.Proofs.Ytdpnififbpoagaa
open Go.RowKit
set_option linter.unusedVariables false
set_option linter.unusedSimpArgs false

def varN (v : Nat) : List Nd := ns0 ++ (List.range (min v 19998)).map fun (j : Nat) => (⟨3, (j : Int), 0⟩ : Nd)
theorem varN_length (v : Nat) : (varN v).length = 2 + min v 19998 := by
  have h0 : ns0.length = 2 := rfl
  simp [varN, h0]
theorem varN_zero : varN 0 = ns0 := by simp [varN]
theorem nd_varN (v j : Nat) (h : j < min v 19998) : nd (varN v) (2 + j) = ⟨3, j, 0⟩ := by
  have h0 : ns0.length = 2 := rfl
  rw [nd_get _ _ (by rw [varN_length]; omega)]
  simp only [varN]
  rw [List.getElem_append_right (by omega)]
  simp [h0]
theorem nd_varN0 (v : Nat) : nd (varN v) 0 = ⟨1, 0, 0⟩ := by
  have h0 : ns0.length = 2 := rfl
  rw [varN, nd_append_lt _ _ _ (by omega)]
  rfl
theorem nd_varN1 (v : Nat) : nd (varN v) 1 = ⟨2, 0, 0⟩ := by
  have h0 : ns0.length = 2 := rfl
  rw [varN, nd_append_lt _ _ _ (by omega)]
  rfl
theorem varN_kind (v m : Nat) (hm : m < (varN v).length) : (nd (varN v) m).k ≠ 4 ∧ ∀ x : Nat, v ≤ x → nd (varN v) m ≠ ⟨3, (x : Int), 0⟩ := by
  rw [varN_length] at hm
  by_cases h0 : m = 0
  · subst h0; rw [nd_varN0]; exact ⟨by decide, fun x _ => by simp⟩
  by_cases h1 : m = 1
  · subst h1; rw [nd_varN1]; exact ⟨by decide, fun x _ => by simp⟩
  · obtain ⟨j, rfl⟩ : ∃ j, m = 2 + j := ⟨m - 2, by omega⟩
    rw [nd_varN v j (by omega)]
    refine ⟨by simp, fun x hx h => ?_⟩
    injection h with _ h _
    omega
theorem varN_succ (v : Nat) (h : v < 19998) : varN (v + 1) = varN v ++ [⟨3, (v : Int), 0⟩] := by
  simp only [varN]
  rw [show min (v + 1) 19998 = v + 1 by omega, show min v 19998 = v by omega, List.range_succ, List.map_append, List.append_assoc]
  rfl
theorem varN_full (v : Nat) (h : ¬ v < 19998) : varN (v + 1) = varN v := by
  simp only [varN]
  rw [show min (v + 1) 19998 = 19998 by omega, show min v 19998 = 19998 by omega]
theorem do_var (v : Nat) : doN (varN v) ⟨3, (v : Int), 0⟩ = (varN (v + 1), if v < 19998 then some (v + 2) else none) := by
  have hf := fidx_all (varN v) ⟨3, (v : Int), 0⟩ 0 (fun m hm => (varN_kind v m hm).2 v (Nat.le_refl _))
  have hp : doN (varN v) ⟨3, (v : Int), 0⟩ = putN (varN v) ⟨3, (v : Int), 0⟩ := by
    unfold doN
    simp
  rw [hp]
  unfold putN
  rw [hf]
  simp only [varN_length]
  by_cases h : v < 19998
  · rw [if_pos (by omega), if_pos h, varN_succ v h]
    simp only [Prod.mk.injEq, Option.some.injEq, true_and]
    omega
  · rw [if_neg (by omega), if_neg h, varN_full v h]
theorem do_var0 (n : Nat) : doN (varN n) ⟨3, 0, 0⟩ = (varN (max n 1), some 2) := by
  by_cases h : n = 0
  · subst h
    have := do_var 0
    simpa using this
  · have hp : doN (varN n) ⟨3, 0, 0⟩ = putN (varN n) ⟨3, 0, 0⟩ := by
      unfold doN
      simp
    rw [hp]
    have hf := fidx_first (varN n) ⟨3, 0, 0⟩ 0 2 (by rw [varN_length]; omega) (nd_varN n 0 (by omega)) (fun m hm => by
      have : m = 0 ∨ m = 1 := by omega
      rcases this with rfl | rfl
      · rw [nd_varN0]; simp
      · rw [nd_varN1]; simp)
    unfold putN
    rw [hf, show max n 1 = n by omega]
end Go.Proofs.Ytdpnififbpoagaa
