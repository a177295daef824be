/- What a table of formula parts keeps. No program in sight. -/
import Derived.Test.YtbcabcdgblmnkaaNodeDo4
namespace Go.Proofs.Ytbcabcdgblmnkaa
open Go.RowKit
set_option linter.unusedVariables false
set_option linter.unusedSimpArgs false

def Part (ns : List Nd) (i : Nat) (n : Nd) : Prop :=
  (n.k = 3 ∧ 0 ≤ n.a ∧ n.b = 0) ∨ (n.k = 4 ∧ 2 ≤ n.a ∧ n.a < i ∧ n.b = 0 ∧ (nd ns n.a.toNat).k ≠ 4) ∨ ((n.k = 5 ∨ n.k = 6) ∧ 2 ≤ n.a ∧ n.a < n.b ∧ n.b < i)
structure Good (ns : List Nd) : Prop where
  n0 : nd ns 0 = ⟨1, 0, 0⟩
  n1 : nd ns 1 = ⟨2, 0, 0⟩
  two : 2 ≤ ns.length
  most : ns.length ≤ 20000
  parts : ∀ i, 2 ≤ i → i < ns.length → Part ns i (nd ns i)
  one : ∀ i j, i < j → j < ns.length → nd ns i ≠ nd ns j

theorem nd_append_lt (ns ms : List Nd) (i : Nat) (h : i < ns.length) : nd (ns ++ ms) i = nd ns i := by
  rw [nd_get _ _ (by rw [List.length_append]; omega), nd_get _ _ h, List.getElem_append_left h]
theorem nd_snoc (ns : List Nd) (n : Nd) : nd (ns ++ [n]) ns.length = n := by
  rw [nd_get _ _ (by simp), List.getElem_append_right (Nat.le_refl _)]
  simp
theorem fidx_none (ns : List Nd) (n : Nd) (i : Nat) (h : fidx ns n i = none) : ∀ j, j < ns.length → nd ns j ≠ n := by
  induction ns generalizing i with
  | nil => intro j hj; simp at hj
  | cons m ns ih =>
    simp only [fidx] at h
    split at h
    · cases h
    · rename_i hne
      intro j hj
      cases j with
      | zero => simpa [nd] using fun e => hne e.symm
      | succ j => simpa [nd] using ih _ h j (by simpa using hj)
theorem fidx_some (ns : List Nd) (n : Nd) (i j : Nat) (h : fidx ns n i = some j) : i ≤ j ∧ j - i < ns.length ∧ nd ns (j - i) = n ∧ ∀ m, m < j - i → nd ns m ≠ n := by
  induction ns generalizing i with
  | nil => cases h
  | cons m ns ih =>
    simp only [fidx] at h
    split at h
    · rename_i he
      injection h with h
      subst h
      refine ⟨Nat.le_refl _, by simp, by simp [nd, he], fun m hm => by omega⟩
    · rename_i hne
      obtain ⟨h1, h2, h3, h4⟩ := ih _ h
      have e : j - i = (j - (i + 1)) + 1 := by omega
      refine ⟨by omega, by rw [e]; simpa using h2, by rw [e]; simpa [nd] using h3, fun q hq => ?_⟩
      cases q with
      | zero => simpa [nd] using fun e => hne e.symm
      | succ q => simpa [nd] using h4 q (by omega)

theorem Part.grow {ns : List Nd} {i : Nat} {n m : Nd} (h : Part ns i n) (hi : i ≤ ns.length) : Part (ns ++ [m]) i n := by
  rcases h with h | ⟨h1, h2, h3, h4, h5⟩ | h
  · exact .inl h
  · refine .inr (.inl ⟨h1, h2, h3, h4, ?_⟩)
    rw [nd_append_lt _ _ _ (by omega)]
    exact h5
  · exact .inr (.inr h)
theorem Good.put {ns : List Nd} (h : Good ns) (n : Nd) (hp : Part ns ns.length n) : Good (putN ns n).1 := by
  unfold putN
  cases hf : fidx ns n 0 with
  | some i => exact h
  | none =>
    by_cases hm : ns.length < 20000
    · simp only [hm, if_true]
      have h2 := h.two
      refine ⟨by rw [nd_append_lt _ _ _ (by omega)]; exact h.n0, by rw [nd_append_lt _ _ _ (by omega)]; exact h.n1, by rw [List.length_append]; omega, by rw [List.length_append]; simp; omega, fun i hi hl => ?_, fun i j hij hl => ?_⟩
      · rw [List.length_append] at hl
        simp at hl
        by_cases hlt : i < ns.length
        · rw [nd_append_lt _ _ _ hlt]
          exact (h.parts i hi hlt).grow (by omega)
        · obtain rfl : i = ns.length := by omega
          rw [nd_snoc]
          exact hp.grow (Nat.le_refl _)
      · rw [List.length_append] at hl
        simp at hl
        rw [nd_append_lt _ _ _ (show i < ns.length by omega)]
        by_cases hlt : j < ns.length
        · rw [nd_append_lt _ _ _ hlt]
          exact h.one i j hij hlt
        · obtain rfl : j = ns.length := by omega
          rw [nd_snoc]
          exact fidx_none ns n 0 hf i (by omega)
    · simp only [hm, if_false]
      exact h
theorem Good.neg {ns : List Nd} (h : Good ns) : ∀ i, i < ns.length → (nd ns i).k = 4 → 0 ≤ (nd ns i).a := by
  intro i hi hk
  by_cases h2 : 2 ≤ i
  · rcases h.parts i h2 hi with ⟨h1, _⟩ | ⟨_, h3, _⟩ | ⟨h1, _⟩
    · omega
    · omega
    · omega
  · have : i = 0 ∨ i = 1 := by omega
    rcases this with rfl | rfl
    · rw [h.n0] at hk; simp at hk
    · rw [h.n1] at hk; simp at hk
theorem Good.low {ns : List Nd} (h : Good ns) (a : Nat) (h1 : (nd ns a).k ≠ 1) (h2 : (nd ns a).k ≠ 2) : 2 ≤ a := by
  refine Nat.le_of_not_lt fun hlt => ?_
  have : a = 0 ∨ a = 1 := by omega
  rcases this with rfl | rfl
  · exact h1 (by rw [h.n0])
  · exact h2 (by rw [h.n1])
theorem Good.not {ns : List Nd} (h : Good ns) (a : Nat) (ha : a < ns.length) : Good (notN ns a).1 := by
  unfold notN
  split
  · exact h
  split
  · exact h
  split
  · exact h
  · rename_i h1 h2 h4
    have := h.low a h1 h2
    exact h.put _ (.inr (.inl ⟨rfl, by simp only; omega, by simp only; omega, rfl, by simpa using h4⟩))
theorem Good.pair {ns : List Nd} (h : Good ns) (kind : Int) (a b u z : Nat) (ha : a < ns.length) (hb : b < ns.length) (hk : kind = 5 ∨ kind = 6) (huz : (u = 0 ∧ z = 1) ∨ (u = 1 ∧ z = 0)) : Good (pairN ns kind a b u z).1 := by
  unfold pairN
  split
  · exact h
  rename_i g1
  split
  · exact h
  rename_i g2
  split
  · exact h
  rename_i g3
  refine h.put _ (.inr (.inr ⟨hk, ?_, ?_, ?_⟩))
  · simp only; omega
  · simp only; omega
  · simp only; omega
theorem inB_nat {ns : List Nd} {i : Int} (h : inB ns i = true) : i.toNat < ns.length := by
  simp [inB] at h
  omega
theorem Good.doN {ns : List Nd} (h : Good ns) (o : Nd) : Good (doN ns o).1 := by
  unfold Proofs.Ytbcabcdgblmnkaa.doN
  split
  · exact h
  split
  · exact h
  split
  · split
    · rename_i h3 ha
      exact h.put _ (.inl ⟨rfl, ha, rfl⟩)
    · exact h
  split
  · split
    · rename_i hi
      exact h.not _ (inB_nat hi)
    · exact h
  split
  · split
    · rename_i hi
      simp only [Bool.and_eq_true] at hi
      exact h.pair 5 _ _ 1 0 (inB_nat hi.1) (inB_nat hi.2) (.inl rfl) (.inr ⟨rfl, rfl⟩)
    · exact h
  split
  · split
    · rename_i hi
      simp only [Bool.and_eq_true] at hi
      exact h.pair 6 _ _ 0 1 (inB_nat hi.1) (inB_nat hi.2) (.inr rfl) (.inl ⟨rfl, rfl⟩)
    · exact h
  · exact h
theorem good0 : Good ns0 := by
  refine ⟨rfl, rfl, by decide, by decide, fun i h1 h2 => ?_, fun i j h1 h2 => ?_⟩
  · simp [ns0] at h2; omega
  · simp [ns0] at h2
    obtain ⟨rfl, rfl⟩ : i = 0 ∧ j = 1 := by omega
    simp [ns0, nd]

/-- A play: the nodes and the answers. -/
def ansI (o : Option Nat) : Int := match o with | some i => i | none => -1
def stepP (s : List Nd × List Int) (o : Nd) : List Nd × List Int := ((Proofs.Ytbcabcdgblmnkaa.doN s.1 o).1, s.2 ++ [ansI (Proofs.Ytbcabcdgblmnkaa.doN s.1 o).2])
def playN (os : List Nd) : List Nd × List Int := os.foldl stepP (ns0, [])
theorem playN_take (os : List Nd) (k : Nat) (h : k < os.length) : playN (os.take (k + 1)) = stepP (playN (os.take k)) os[k] := by
  unfold playN
  rw [List.take_add_one, List.foldl_append, List.getElem?_eq_getElem h]
  rfl
theorem good_fold (os : List Nd) (s : List Nd × List Int) (h : Good s.1) : Good (os.foldl stepP s).1 := by
  induction os generalizing s with
  | nil => exact h
  | cons o os ih => exact ih _ (h.doN o)
theorem good_play (os : List Nd) : Good (playN os).1 := good_fold os _ good0
theorem len_fold (os : List Nd) (s : List Nd × List Int) : (os.foldl stepP s).2.length = s.2.length + os.length := by
  induction os generalizing s with
  | nil => rfl
  | cons o os ih => rw [List.foldl_cons, ih]; simp [stepP]; omega
theorem len_play (os : List Nd) : (playN os).2.length = os.length := by unfold playN; rw [len_fold]; simp
end Go.Proofs.Ytbcabcdgblmnkaa
