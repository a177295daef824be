/- Formulas as trees: how many nodes, how deep; what the law's copy and the reference answer. No program in sight. -/
import Derived.Test.YtbcabcdgblmnkaaFmNnf
namespace Go.Proofs.Ytbcabcdgblmnkaa
open Go.RowKit
set_option linter.unusedVariables false
set_option linter.unusedSimpArgs false

mutual
def sizeF : Fm → Nat
  | .mk _ _ sub => sizeL sub + 1
def sizeL : List Fm → Nat
  | [] => 0
  | s :: ss => sizeF s + sizeL ss
end
mutual
/-- is a node deeper than 200? -/
def deepF : Fm → Nat → Bool
  | .mk _ _ sub, d => if 200 < d then true else deepL sub (d + 1)
def deepL : List Fm → Nat → Bool
  | [], _ => false
  | s :: ss, d => deepF s d || deepL ss d
end
theorem sizeF_pos (f : Fm) : 1 ≤ sizeF f := by cases f; rw [sizeF]; omega
theorem sizeF_eq (f : Fm) : sizeF f = sizeL f.sub + 1 := by cases f; rw [sizeF]; rfl
theorem sizeL_append (fs gs : List Fm) : sizeL (fs ++ gs) = sizeL fs + sizeL gs := by
  induction fs with
  | nil => simp [sizeL]
  | cons f fs ih => rw [List.cons_append, sizeL, sizeL, ih]; omega
theorem sizeL_len (fs : List Fm) : fs.length ≤ sizeL fs := by
  induction fs with
  | nil => simp
  | cons f fs ih => rw [sizeL, List.length_cons]; have := sizeF_pos f; omega
theorem sizeL_get (fs : List Fm) (i : Nat) (f : Fm) (h : fs[i]? = some f) : sizeF f ≤ sizeL fs := by
  induction fs generalizing i with
  | nil => simp at h
  | cons g fs ih =>
    rw [sizeL]
    cases i with
    | zero => simp at h; subst h; omega
    | succ i => have := ih i (by simpa using h); omega

mutual
theorem count_fits (f : Fm) (n d : Nat) (hn : n ≤ 20000) : (deepF f d = false ∧ n + sizeF f ≤ 20000 → countF f n d = n + sizeF f) ∧ (deepF f d = true ∨ 20000 < n + sizeF f → 20000 < countF f n d) := by
  cases f with
  | mk k a sub =>
    rw [countF, deepF, sizeF]
    by_cases h : 200 < d
    · rw [if_pos h, if_pos h]
      exact ⟨fun h => by simp at h, fun _ => by omega⟩
    · rw [if_neg h, if_neg h]
      obtain ⟨h1, h2⟩ := count_fitsL sub (n + 1) d (by omega)
      exact ⟨fun h => by rw [h1 ⟨h.1, by omega⟩]; omega, fun h => h2 (by rcases h with h | h; exact .inl h; exact .inr (by omega))⟩
theorem count_fitsL (fs : List Fm) (n d : Nat) (hn : n ≤ 20001) : (deepL fs (d + 1) = false ∧ n + sizeL fs ≤ 20000 → countL fs n d = n + sizeL fs) ∧ (deepL fs (d + 1) = true ∨ 20000 < n + sizeL fs → 20000 < countL fs n d) := by
  cases fs with
  | nil =>
    rw [countL, deepL, sizeL]
    exact ⟨fun _ => rfl, fun h => by simp at h; omega⟩
  | cons f fs =>
    rw [countL, deepL, sizeL]
    by_cases h : 20000 < n
    · rw [if_pos h]
      exact ⟨fun h => by omega, fun _ => h⟩
    · rw [if_neg h]
      obtain ⟨h1, h2⟩ := count_fits f n (d + 1) (by omega)
      have hle := countF_le f n (d + 1) (by omega)
      obtain ⟨h3, h4⟩ := count_fitsL fs (countF f n (d + 1)) d hle
      by_cases h5 : deepF f (d + 1) = true ∨ 20000 < n + sizeF f
      · have h6 := h2 h5
        refine ⟨fun h => ?_, fun _ => h4 (.inr (by omega))⟩
        obtain ⟨h7, h8⟩ := h
        rw [Bool.or_eq_false_iff] at h7
        rcases h5 with h5 | h5
        · rw [h7.1] at h5; cases h5
        · omega
      · have h5' : deepF f (d + 1) = false ∧ n + sizeF f ≤ 20000 := ⟨by cases h : deepF f (d + 1) with | true => exact absurd (.inl h) h5 | false => rfl, by omega⟩
        rw [h1 h5'] at h3 h4 ⊢
        rw [h5'.1, Bool.false_or]
        exact ⟨fun h => by rw [h3 ⟨h.1, by omega⟩]; omega, fun h => h4 (by rcases h with h | h; exact .inl h; exact .inr (by omega))⟩
end
/-- too great. -/
def great (f : Fm) : Bool := deepF f 1 || decide (20000 < sizeF f)
theorem count_great (f : Fm) : 20000 < countF f 0 1 ↔ great f = true := by
  obtain ⟨h1, h2⟩ := count_fits f 0 1 (by omega)
  unfold great
  constructor
  · intro h
    rw [Bool.or_eq_true, decide_eq_true_eq]
    by_cases h3 : deepF f 1 = true
    · exact .inl h3
    · refine .inr ?_
      by_cases h4 : 20000 < sizeF f
      · exact h4
      · rw [h1 ⟨by simpa using h3, by omega⟩] at h; omega
  · intro h
    rw [Bool.or_eq_true, decide_eq_true_eq] at h
    exact h2 (by rcases h with h | h; exact .inl h; exact .inr (by omega))
theorem count_size (f : Fm) (h : great f = false) : countF f 0 1 = sizeF f := by
  unfold great at h
  rw [Bool.or_eq_false_iff, decide_eq_false_iff_not] at h
  rw [(count_fits f 0 1 (by omega)).1 ⟨h.1, by omega⟩]; omega
theorem checkF_eq (f : Fm) (n : Int) : checkF f n = if great f = true then 2 else if shapeF f n = true then 0 else 4 := by
  unfold checkF
  by_cases h : great f = true
  · rw [if_pos h, if_pos ((count_great f).2 h)]
  · rw [if_neg h, if_neg (fun h' => h ((count_great f).1 h'))]
theorem checkF_great {f : Fm} {n : Int} (h : checkF f n = 0) : great f = false ∧ shapeF f n = true := by
  rw [checkF_eq] at h
  cases hg : great f with
  | true => rw [hg, if_pos rfl] at h; cases h
  | false =>
    rw [hg, if_neg (by simp)] at h
    split at h
    · exact ⟨rfl, by assumption⟩
    · cases h
theorem great_size {f : Fm} (h : great f = false) : sizeF f ≤ 20000 := by
  unfold great at h
  rw [Bool.or_eq_false_iff, decide_eq_false_iff_not] at h
  omega
theorem great_deep {f : Fm} (h : great f = false) : deepF f 1 = false := by
  unfold great at h
  rw [Bool.or_eq_false_iff] at h
  exact h.1
mutual
theorem fits_f (f : Fm) (h : sizeF f ≤ 20001) : Fits f.sub := by
  cases f with
  | mk k a sub =>
    rw [sizeF] at h
    have := sizeL_len sub
    exact .mk sub (by omega) (fits_l sub (by omega))
theorem fits_l (fs : List Fm) (h : sizeL fs ≤ 20000) : ∀ (i : Nat) (f : Fm), fs[i]? = some f → Fits f.sub := by
  cases fs with
  | nil => intro i f hf; simp at hf
  | cons g fs =>
    rw [sizeL] at h
    intro i f hf
    cases i with
    | zero => simp at hf; subst hf; exact fits_f _ (by omega)
    | succ i => exact fits_l fs (by omega) i f (by simpa using hf)
end

mutual
/-- the copy: at most so many nodes; and how many may still come. -/
def toldF : Fm → Nat → Fm × Nat
  | .mk k a sub, m => (.mk k a (toldL sub (m - 1)).1, (toldL sub (m - 1)).2)
def toldL : List Fm → Nat → List Fm × Nat
  | [], m => ([], m)
  | s :: ss, m => if m = 0 then ([], m) else ((toldF s m).1 :: (toldL ss (toldF s m).2).1, (toldL ss (toldF s m).2).2)
end
mutual
theorem told_same (f : Fm) (m : Nat) (h : sizeF f ≤ m) : toldF f m = (f, m - sizeF f) := by
  cases f with
  | mk k a sub =>
    rw [sizeF] at h
    rw [toldF, sizeF, told_sameL sub (m - 1) (by omega)]
    simp only [Prod.mk.injEq, true_and]
    omega
theorem told_sameL (fs : List Fm) (m : Nat) (h : sizeL fs ≤ m) : toldL fs m = (fs, m - sizeL fs) := by
  cases fs with
  | nil => rw [toldL, sizeL]; rfl
  | cons f fs =>
    rw [sizeL] at h
    have h1 := sizeF_pos f
    rw [toldL, if_neg (by omega), told_same f m (by omega), sizeL]
    simp only
    rw [told_sameL fs (m - sizeF f) (by omega)]
    simp only [Prod.mk.injEq, true_and]
    omega
end
mutual
theorem told_size (f : Fm) (m : Nat) (hm : 1 ≤ m) : sizeF (toldF f m).1 = min (sizeF f) m ∧ (toldF f m).2 = m - sizeF f := by
  cases f with
  | mk k a sub =>
    obtain ⟨h1, h2⟩ := told_sizeL sub (m - 1)
    rw [toldF, sizeF, sizeF]
    simp only
    rw [h1, h2]
    exact ⟨by omega, by omega⟩
theorem told_sizeL (fs : List Fm) (m : Nat) : sizeL (toldL fs m).1 = min (sizeL fs) m ∧ (toldL fs m).2 = m - sizeL fs := by
  cases fs with
  | nil => rw [toldL]; simp [sizeL]
  | cons f fs =>
    rw [toldL]
    by_cases h0 : m = 0
    · rw [if_pos h0]; subst h0; simp [sizeL]
    · rw [if_neg h0]
      simp only
      obtain ⟨h1, h2⟩ := told_size f m (by omega)
      obtain ⟨h3, h4⟩ := told_sizeL fs (toldF f m).2
      rw [sizeL, sizeL, h1, h3, h4, h2]
      exact ⟨by omega, by omega⟩
end
/-- what the law's Told answers. -/
def toldT (f : Fm) : Fm := (toldF f 20002).1
theorem toldT_same (f : Fm) (h : sizeF f ≤ 20002) : toldT f = f := by unfold toldT; rw [told_same f _ h]
theorem toldT_size (f : Fm) : sizeF (toldT f) = min (sizeF f) 20002 := (told_size f 20002 (by omega)).1

/-- the reference's Nodes. -/
def nodesF (f : Fm) (most : Nat) : Nat := min (sizeF f) (most + 1)
mutual
/-- the reference's over. -/
def overF : Fm → Nat → Int
  | .mk _ _ sub, d => if 200 < d then -1 else overL sub 1 d
def overL : List Fm → Nat → Nat → Int
  | [], n, _ => n
  | s :: ss, n, d => if overF s (d + 1) < 0 ∨ 20000 < (n : Int) + overF s (d + 1) then -1 else overL ss (n + (overF s (d + 1)).toNat) d
end
mutual
theorem over_fits (f : Fm) (d : Nat) : overF f d = if deepF f d = true ∨ 20000 < sizeF f then -1 else (sizeF f : Int) := by
  cases f with
  | mk k a sub =>
    rw [overF, deepF, sizeF]
    by_cases h : 200 < d
    · rw [if_pos h, if_pos h, if_pos (.inl rfl)]
    · rw [if_neg h, if_neg h, over_fitsL sub 1 d (by omega)]
      by_cases h2 : deepL sub (d + 1) = true ∨ 20000 < 1 + sizeL sub
      · rw [if_pos h2, if_pos (by rcases h2 with h2 | h2; exact .inl h2; exact .inr (by omega))]
      · rw [if_neg h2, if_neg (fun h3 => h2 (by rcases h3 with h3 | h3; exact .inl h3; exact .inr (by omega)))]; omega
theorem over_fitsL (fs : List Fm) (n d : Nat) (hn : n ≤ 20000) : overL fs n d = if deepL fs (d + 1) = true ∨ 20000 < n + sizeL fs then -1 else ((n + sizeL fs : Nat) : Int) := by
  cases fs with
  | nil => rw [overL, deepL, sizeL, if_neg (by simp; omega)]; simp
  | cons f fs =>
    rw [overL, deepL, sizeL, over_fits f (d + 1)]
    simp only [Bool.or_eq_true]
    by_cases h : deepF f (d + 1) = true ∨ 20000 < sizeF f
    · rw [if_pos h, if_pos (.inl (by omega)), if_pos]
      rcases h with h | h
      · exact .inl (.inl h)
      · exact .inr (by omega)
    · rw [if_neg h]
      by_cases h2 : 20000 < n + sizeF f
      · rw [if_pos (.inr (by omega)), if_pos (.inr (by omega))]
      · rw [if_neg (by omega), Int.toNat_natCast, over_fitsL fs (n + sizeF f) d (by omega)]
        by_cases h3 : deepL fs (d + 1) = true ∨ 20000 < n + sizeF f + sizeL fs
        · rw [if_pos h3, if_pos (by rcases h3 with h3 | h3; exact .inl (.inr h3); exact .inr (by omega))]
        · rw [if_neg h3, if_neg (fun h4 => h3 (by rcases h4 with (h4 | h4) | h4; exact absurd (.inl h4) h; exact .inl h4; exact .inr (by omega)))]
          omega
end
theorem over_great (f : Fm) : overF f 1 < 0 ↔ great f = true := by
  rw [over_fits]
  unfold great
  rw [Bool.or_eq_true, decide_eq_true_eq]
  by_cases h : deepF f 1 = true ∨ 20000 < sizeF f
  · rw [if_pos h]; exact ⟨fun _ => h, fun _ => by decide⟩
  · rw [if_neg h]; exact ⟨fun h' => by omega, fun h' => absurd h' h⟩
theorem over_ge (f : Fm) (d : Nat) : -1 ≤ overF f d ∧ overF f d ≤ 20000 := by
  rw [over_fits]
  split
  · exact ⟨by omega, by omega⟩
  · rename_i h; exact ⟨by omega, by omega⟩
/-- the copy is told great just if the formula is. -/
theorem told_great (f : Fm) : great (toldT f) = great f := by
  by_cases h : sizeF f ≤ 20002
  · rw [toldT_same f h]
  · unfold great
    rw [toldT_size]
    have h1 : decide (20000 < min (sizeF f) 20002) = true := decide_eq_true (by omega)
    have h2 : decide (20000 < sizeF f) = true := decide_eq_true (by omega)
    rw [h1, h2, Bool.or_true, Bool.or_true]
theorem told_check (f : Fm) (n : Int) : checkF (toldT f) n = checkF f n := by
  rw [checkF_eq, checkF_eq, told_great]
  cases hg : great f with
  | true => rfl
  | false => rw [toldT_same f (by have := great_size hg; omega)]
theorem told_small (f : Fm) (m : Nat) (hm : m ≤ 20000) : nodesF (toldT f) m ≤ m ↔ sizeF f ≤ m := by
  unfold nodesF
  rw [toldT_size]
  omega
end Go.Proofs.Ytbcabcdgblmnkaa
