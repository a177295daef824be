/- The law ClauseChains: the rows that the law takes. -/
import Derived.Test.YtbcabcdgblmnkaaClChain
namespace Go.Proofs.Ytbcabcdgblmnkaa
open Go.RowKit
set_option linter.unusedVariables false
set_option linter.unusedSimpArgs false

theorem info_row : (Try.prog.info? 22).map (fun i => (i.zero, i.size, i.bytes)) = some (some (.slice none 0 0), 1, 24) := by kernel_rfl
/-- the rows taken so far. -/
structure InS (w wr : World) (v : Value) (vs : List Value) (yss : List (List Int)) : Prop where
  own : wr.ownsRow w.heap.size 22 1 v vs.length vs
  len : vs.length = yss.length
  rows : ∀ (i : Nat) (u : Value) (ys : List Int), vs[i]? = some u → yss[i]? = some ys → RowI wr w.heap.size u ys
  bel : Below w.heap.size w wr
theorem InS.below {w wr w' : World} {v : Value} {vs : List Value} {yss : List (List Int)} (h : InS w wr v vs yss) (hb : Below wr.heap.size wr w') : InS w w' v vs yss :=
  ⟨own_below h.own hb, h.len, fun i u ys hu hy => (h.rows i u ys hu hy).below hb, bstepC h.bel hb⟩
theorem RowI.fr2 {w w' : World} {B : Nat} {v : Value} {xs : List Int} {T : Nat → Prop} (h : RowI w B v xs) (hf : Fr T w w') (hT : ∀ (g : Nat) (cur : Array Value), w.heap[g]? = some (.cells cur 3 (0, 0)) → ¬ T g) : RowI w' B v xs := by
  obtain ⟨A, c, e, h1, h2, h3, h4⟩ := h
  refine ⟨A, c, e, h1, h2, hf.rd h3 (fun b o e' => ?_), fun a ha => ?_⟩
  · obtain ⟨g, cur, e2, hg, hh⟩ := h4 _ e'
    injection e2 with e2
    subst e2
    exact hT _ cur hh
  · obtain ⟨g, cur, e2, hg, hh⟩ := h4 a ha
    exact ⟨g, cur, e2, hg, (hf.block g (Array.getElem?_eq_some_iff.1 hh).1 (hT g cur hh)).trans hh⟩
theorem InS.snoc {w wr w4 : World} {v v' u : Value} {vs : List Value} {yss : List (List Int)} {ys : List Int} (h : InS w wr v vs yss) (hu : RowI wr w.heap.size u ys) (hg : wr.grownBy w4 v.ownBlock)
    {m : Nat} (hown : w4.ownsRow w.heap.size 22 1 v' m (vs ++ [u])) (hb : Below w.heap.size w w4) (hm : m = vs.length + 1 := by simp) : InS w w4 v' (vs ++ [u]) (yss ++ [ys]) := by
  have hf : Fr (ownS v) wr w4 := Fr.of_grown hg (fun k hk => .inl hk)
  have hT : ∀ (g : Nat) (cur : Array Value), wr.heap[g]? = some (.cells cur 3 (0, 0)) → ¬ ownS v g := fun g cur hh => own_type h.own hh (by decide)
  subst hm
  refine ⟨by rw [List.length_append]; exact hown, by simp [h.len], fun i a b ha hbb => ?_, hb⟩
  by_cases hi : i < vs.length
  · rw [List.getElem?_append_left hi] at ha
    rw [List.getElem?_append_left (by rw [← h.len]; exact hi)] at hbb
    exact (h.rows i a b ha hbb).fr2 hf hT
  · have hil := (List.getElem?_eq_some_iff.1 ha).1
    rw [List.length_append] at hil
    simp at hil
    obtain rfl : i = vs.length := by omega
    rw [List.getElem?_append_right (Nat.le_refl _), Nat.sub_self] at ha
    rw [List.getElem?_append_right (by rw [h.len]; exact Nat.le_refl _), h.len, Nat.sub_self] at hbb
    simp only [List.getElem?_cons_zero, Option.some.injEq] at ha hbb
    subst ha hbb
    exact hu.fr2 hf hT
theorem InS.nil (w wr : World) (c : Nat) (h : Below w.heap.size w wr) : InS w (wr.alloc (.cells #[] 22)) (.slice (some ⟨wr.heap.size, 0, none⟩) 0 0) [] [] :=
  ⟨own_empty _ _ _ h.size, rfl, fun i u ys hu => by simp at hu, h.alloc h.size _⟩
/-- how the rows read. -/
theorem InS.mat {w wr : World} {v : Value} {vs : List Value} {yss : List (List Int)} (h : InS w wr v vs yss) : ∃ A c, v = .slice A yss.length c ∧ yss.length ≤ c ∧ c ≤ maxLen ∧ Rd wr 1 A yss.length vs ∧ MatI wr vs yss := by
  obtain ⟨A, c, e, hnc, hr⟩ := ownsRow_form h.own
  have hc : c ≤ maxLen := by
    rcases h.own.2 with ⟨e', _⟩ | ⟨g, cap, cur, e', _, _, _, hm, _⟩
    · rw [e] at e'; injection e' with _ _ e'; subst e'; unfold maxLen; omega
    · rw [e] at e'; injection e' with _ _ e'; subst e'; exact hm
  rw [h.len] at e hnc hr
  exact ⟨A, c, e, hnc, hc, hr, h.len, fun i u ys hu hy => (h.rows i u ys hu hy).sl⟩
def takeF (xss : List (List Int)) (i : Nat) : List (List Int) := (xss.take i).map fun xs => xs.take 60
theorem takeF_snoc (xss : List (List Int)) (i : Nat) (h : i < xss.length) : takeF xss (i + 1) = takeF xss i ++ [(xss.getD i []).take 60] := by
  unfold takeF
  rw [List.take_add_one, List.getElem?_eq_getElem h, List.map_append, List.getD_eq_getElem?_getD, List.getElem?_eq_getElem h]
  rfl
theorem takeF_len (xss : List (List Int)) (i : Nat) : (takeF xss i).length = min i xss.length := by simp [takeF]
theorem takeF_small (xss : List (List Int)) (i : Nat) : ∀ ys ∈ takeF xss i, ys.length ≤ 60 := fun ys h => by
  unfold takeF at h
  obtain ⟨xs, _, rfl⟩ := List.mem_map.1 h
  exact few_len xs
theorem takeF_i64 (xss : List (List Int)) (i : Nat) (hw : ∀ xs ∈ xss, ∀ l ∈ xs, IsI64 l) : ∀ ys ∈ takeF xss i, ∀ l ∈ ys, IsI64 l := fun ys h => by
  unfold takeF at h
  obtain ⟨xs, hx, rfl⟩ := List.mem_map.1 h
  exact few_i64 (hw xs (List.mem_of_mem_take hx))
end Go.Proofs.Ytbcabcdgblmnkaa
