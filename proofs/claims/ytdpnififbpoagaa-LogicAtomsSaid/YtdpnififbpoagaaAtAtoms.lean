/- Contracts of package logic: Atoms; of the reference: Has. -/
import Derived.Test.YtdpnififbpoagaaAtWalk
import Derived.Test.YtdpnififbpoagaaShelf
import Derived.Lib.OwnBridge
import Derived.Lib.SortBridge
import Derived.Lib.SlicesCompact
namespace Go.Proofs.Ytdpnififbpoagaa
open Go.RowKit
set_option linter.unusedVariables false
set_option linter.unusedSimpArgs false

/-- sorted, each once. -/
def sortI (xs : List Int) : List Int := xs.mergeSort fun x y => decide (x ≤ y)
def atomsI (f : Fm) : List Int := Lib.compact (sortI (atomsF f))
theorem sortI_mem (xs : List Int) (a : Int) : a ∈ sortI xs ↔ a ∈ xs := (List.mergeSort_perm xs _).mem_iff
theorem sortI_len (xs : List Int) : (sortI xs).length = xs.length := (List.mergeSort_perm xs _).length_eq
theorem sortI_sorted (xs : List Int) : (sortI xs).Pairwise fun a b => a ≤ b := by
  have h := List.pairwise_mergeSort (le := fun (x y : Int) => decide (x ≤ y)) (fun a b c h1 h2 => by simp at *; omega) (fun a b => by simp; omega) xs
  exact h.imp fun h => by simpa using h

theorem grow_belowA {w : World} (os : Array Obj) : Below w.heap.size w (Sort.grow w os) :=
  ⟨rfl, rfl, rfl, by simp, fun k hk => Sort.heap_grow_old w os hk⟩
theorem sort_int (xs : List Int) (B : Nat) (v : Value) (w : World) (hn : xs.length ≤ 1000000) (ho : w.ownsRow B 3 1 v xs.length (intL xs)) :
    Calls Try.prog 61 #[v] w fun e w' => e = .returned (.tuple #[]) ∧ w'.ownsRow B 3 1 v xs.length (intL (sortI xs)) ∧ ∀ W0, Below B W0 w → Below B W0 w' := by
  by_cases hv : v = .slice none 0 0
  · subst hv
    have hx : xs = [] := by
      rcases ho.2 with ⟨_, h⟩ | ⟨g, cap, cur, e, _⟩
      · exact List.eq_nil_of_length_eq_zero h
      · cases e
    subst hx
    refine (Try.slices_Sort_int_none none 0 w).mono ?_
    rintro e w' ⟨rfl, rfl⟩
    exact ⟨rfl, by simpa [sortI] using ho, fun W0 h => h⟩
  · obtain ⟨g, cap, rfl, hBg, hgw, hnc, hm, _, hH⟩ := Lib.holds_of_ownsRow ho hv
    refine (Try.slices_Sort_int g 0 cap xs w hH hgw (by omega)).mono ?_
    rintro e w' ⟨rfl, q, os, rfl⟩
    have hyl := sortI_len xs
    have hown := Lib.ownsRow_putRow (q := q) (k := xs.length) (ys := sortI xs) ho hyl (Nat.le_refl _)
    rw [List.take_of_length_le (by omega)] at hown
    exact ⟨rfl, own_below hown (grow_belowA os), fun W0 h => (Lib.below_putRow h hBg).trans ((grow_belowA os).mono (by simp [Sort.putRow, Sort.mapBlock, Sort.ahead]; omega))⟩
theorem compact_int (ys : List Int) (B : Nat) (v : Value) (w : World) (hn : ys.length ≤ 1000000) (ho : w.ownsRow B 3 1 v ys.length (intL ys)) :
    Calls Try.prog 62 #[v] w fun e w' => ∃ v', e = .returned v' ∧ w'.ownsRow B 3 1 v' (Lib.compact ys).length (intL (Lib.compact ys)) ∧ ∀ W0, Below B W0 w → Below B W0 w' := by
  by_cases hv : v = .slice none 0 0
  · subst hv
    have hx : ys = [] := by
      rcases ho.2 with ⟨_, h⟩ | ⟨g, cap, cur, e, _⟩
      · exact List.eq_nil_of_length_eq_zero h
      · cases e
    subst hx
    refine (Try.slices_Compact_int_empty none 0 w).mono ?_
    rintro e w' ⟨rfl, rfl⟩
    exact ⟨_, rfl, ho, fun W0 h => h⟩
  · obtain ⟨g, cap, rfl, hBg, hgw, hnc, hm, _, hH⟩ := Lib.holds_of_ownsRow ho hv
    refine (Try.slices_Compact_int g 0 cap ys w hH (by omega) hnc).mono ?_
    rintro e w' ⟨rfl, q, rfl⟩
    have hle := Lib.compact_length_le ys
    have hown := Lib.ownsRow_putRow (q := q) (k := (Lib.compact ys).length) (ys := Lib.compact ys ++ List.replicate (ys.length - (Lib.compact ys).length) 0) ho (by simp; omega) hle
    rw [List.take_left' rfl] at hown
    exact ⟨_, rfl, hown, fun W0 h => Lib.below_putRow h hBg⟩
end Go.Proofs.Ytdpnififbpoagaa
