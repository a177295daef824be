/- Clauses as lists of integers: the one order, the one form. No program in sight. -/
import Derived.Test.YtbcabcdgblmnkaaRows
import Derived.Lib.SlicesCompact
import Derived.Sort.LotA
namespace Go.Proofs.Ytbcabcdgblmnkaa
set_option linter.unusedVariables false
set_option linter.unusedSimpArgs false

/-- a stands ahead of b: by variable, the literal itself ahead of its opposite. -/
def ahd (a b : Int) : Bool := decide (a.natAbs < b.natAbs ∨ (a.natAbs = b.natAbs ∧ b < a))
theorem ahd_iff (a b : Int) : ahd a b = true ↔ (a.natAbs < b.natAbs ∨ (a.natAbs = b.natAbs ∧ b < a)) := by simp [ahd]
theorem ahd_irrefl (a : Int) : ahd a a = false := by simp [ahd]
theorem ahd_trans {a b c : Int} (h : ahd a b = true) (h' : ahd b c = true) : ahd a c = true := by rw [ahd_iff] at *; omega
theorem ahd_asymm {a b : Int} (h : ahd a b = true) : ahd b a = false := by
  cases h' : ahd b a with
  | false => rfl
  | true => have := ahd_trans h h'; rw [ahd_irrefl] at this; cases this
theorem ahd_total {a b : Int} (h : ahd a b = false) (h' : ahd b a = false) : a = b := by
  have h1 : ¬ ahd a b = true := by rw [h]; simp
  have h2 : ¬ ahd b a = true := by rw [h']; simp
  rw [ahd_iff] at h1 h2
  omega
def StrictL (xs : List Int) : Prop := xs.Pairwise fun a b => ahd a b = true
theorem strict_unique (xs ys : List Int) (hx : StrictL xs) (hy : StrictL ys) (h : ∀ a, a ∈ xs ↔ a ∈ ys) : xs = ys := by
  induction xs generalizing ys with
  | nil =>
    cases ys with
    | nil => rfl
    | cons y ys => have := (h y).2 (by simp); simp at this
  | cons x xs ih =>
    cases ys with
    | nil => have := (h x).1 (by simp); simp at this
    | cons y ys =>
      have hx' := List.pairwise_cons.1 hx
      have hy' := List.pairwise_cons.1 hy
      have hxy : x = y := by
        rcases List.mem_cons.1 ((h x).1 (by simp)) with e | e
        · exact e
        · rcases List.mem_cons.1 ((h y).2 (by simp)) with e' | e'
          · exact e'.symm
          · have h1 := hy'.1 x e
            have h2 := hx'.1 y e'
            rw [ahd_asymm h1] at h2; cases h2
      subst hxy
      rw [ih ys hx'.2 hy'.2 fun a => ?_]
      constructor
      · intro ha
        rcases List.mem_cons.1 ((h a).1 (List.mem_cons_of_mem _ ha)) with e | e
        · subst e; have := hx'.1 a ha; rw [ahd_irrefl] at this; cases this
        · exact e
      · intro ha
        rcases List.mem_cons.1 ((h a).2 (List.mem_cons_of_mem _ ha)) with e | e
        · subst e; have := hy'.1 a ha; rw [ahd_irrefl] at this; cases this
        · exact e

/-- a literal put in its place. -/
def insG (l : Int) : List Int → List Int
  | [] => [l]
  | m :: ms => if ahd l m = true then l :: m :: ms else m :: insG l ms
theorem insG_mem (l a : Int) (out : List Int) : a ∈ insG l out ↔ a = l ∨ a ∈ out := by
  induction out with
  | nil => simp [insG]
  | cons m ms ih =>
    rw [insG]
    split
    · simp
    · rw [List.mem_cons, ih, List.mem_cons]
      constructor
      · rintro (h | h | h)
        · exact .inr (.inl h)
        · exact .inl h
        · exact .inr (.inr h)
      · rintro (h | h | h)
        · exact .inr (.inl h)
        · exact .inl h
        · exact .inr (.inr h)
theorem insG_len (l : Int) (out : List Int) : (insG l out).length = out.length + 1 := by
  induction out with
  | nil => rfl
  | cons m ms ih => rw [insG]; split <;> simp [ih]
theorem insG_strict (l : Int) (out : List Int) (h : StrictL out) (hl : l ∉ out) : StrictL (insG l out) := by
  induction out with
  | nil => simp [insG, StrictL]
  | cons m ms ih =>
    have h' := List.pairwise_cons.1 h
    rw [insG]
    split
    · rename_i hlm
      refine List.pairwise_cons.2 ⟨fun b hb => ?_, h⟩
      rcases List.mem_cons.1 hb with e | e
      · rw [e]; exact hlm
      · exact ahd_trans hlm (h'.1 b e)
    · rename_i hlm
      have hlm' : ahd l m = false := by simpa using hlm
      have hml : ahd m l = true := by
        cases hml : ahd m l with
        | true => rfl
        | false => exact absurd (ahd_total hlm' hml) (fun e => hl (by rw [e]; simp))
      refine List.pairwise_cons.2 ⟨fun b hb => ?_, ih h'.2 (fun e => hl (by simp [e]))⟩
      rcases (insG_mem l b ms).1 hb with e | e
      · rw [e]; exact hml
      · exact h'.1 b e
def canonStep (out : List Int) (l : Int) : List Int := if l ∈ out then out else insG l out
/-- the one form. -/
def canonI (c : List Int) : List Int := c.foldl canonStep []
theorem canon_aux (c out : List Int) (h : StrictL out) : StrictL (c.foldl canonStep out) ∧ ∀ a, a ∈ c.foldl canonStep out ↔ a ∈ out ∨ a ∈ c := by
  induction c generalizing out with
  | nil => exact ⟨h, fun a => by simp⟩
  | cons l c ih =>
    rw [List.foldl_cons]
    by_cases hl : l ∈ out
    · rw [canonStep, if_pos hl]
      obtain ⟨h1, h2⟩ := ih out h
      refine ⟨h1, fun a => ?_⟩
      rw [h2, List.mem_cons]
      constructor
      · rintro (e | e)
        · exact .inl e
        · exact .inr (.inr e)
      · rintro (e | e | e)
        · exact .inl e
        · exact .inl (e ▸ hl)
        · exact .inr e
    · rw [canonStep, if_neg hl]
      obtain ⟨h1, h2⟩ := ih _ (insG_strict l out h hl)
      refine ⟨h1, fun a => ?_⟩
      rw [h2, insG_mem, List.mem_cons]
      constructor
      · rintro ((e | e) | e)
        · exact .inr (.inl e)
        · exact .inl e
        · exact .inr (.inr e)
      · rintro (e | e | e)
        · exact .inl (.inr e)
        · exact .inl (.inl e)
        · exact .inr e
theorem canonI_strict (c : List Int) : StrictL (canonI c) := (canon_aux c [] List.Pairwise.nil).1
theorem canonI_mem (c : List Int) (a : Int) : a ∈ canonI c ↔ a ∈ c := by have := (canon_aux c [] List.Pairwise.nil).2 a; simpa [canonI] using this
theorem canonI_of (c xs : List Int) (h : StrictL xs) (hm : ∀ a, a ∈ xs ↔ a ∈ c) : xs = canonI c := strict_unique _ _ h (canonI_strict c) fun a => by rw [hm, canonI_mem]
theorem canonI_len (c : List Int) : (canonI c).length ≤ c.length := by
  have : ∀ (c out : List Int), (c.foldl canonStep out).length ≤ out.length + c.length := by
    intro c
    induction c with
    | nil => intro out; simp
    | cons l c ih =>
      intro out
      rw [List.foldl_cons]
      have h1 := ih (canonStep out l)
      have h2 : (canonStep out l).length ≤ out.length + 1 := by
        unfold canonStep
        split
        · omega
        · rw [insG_len]; omega
      simp only [List.length_cons]
      omega
  simpa [canonI] using this c []
theorem canonI_id (c : List Int) (h : StrictL c) : canonI c = c := (canonI_of c c h fun a => Iff.rfl).symm

theorem compact_upto (d : Array Int) (hs : ∀ i j, i < j → j < d.size → ahd d[j]! d[i]! = false) (m : Nat) (hm : m ≤ d.size) :
    StrictL (Lib.compactUpTo d m) ∧ ∀ a, a ∈ Lib.compactUpTo d m ↔ ∃ j, j < m ∧ d[j]! = a := by
  induction m with
  | zero => exact ⟨by simp [Lib.compactUpTo, StrictL], fun a => by simp [Lib.compactUpTo]⟩
  | succ m ih =>
    obtain ⟨h1, h2⟩ := ih (by omega)
    rw [Lib.compactUpTo_succ]
    have hle : ∀ j, j < m → ahd d[m]! d[j]! = false := fun j hj => hs j m hj (by omega)
    cases hk : Lib.keeps d m with
    | true =>
      rw [if_pos rfl]
      refine ⟨List.pairwise_append.2 ⟨h1, by simp, fun a ha b hb => ?_⟩, fun a => ?_⟩
      · obtain ⟨j, hj, rfl⟩ := (h2 a).1 ha
        obtain rfl : b = d[m]! := by simpa using hb
        cases hjm : ahd d[j]! d[m]! with
        | true => rfl
        | false =>
          have e := ahd_total hjm (hle j hj)
          have hne : d[m]! ≠ d[m - 1]! := by
            simp only [Lib.keeps, decide_eq_true_eq] at hk
            rcases hk with hk | hk
            · omega
            · exact hk
          have h3 := hle (m - 1) (by omega)
          have h4 : ahd d[m - 1]! d[m]! = false := by
            rw [← e]
            rcases Nat.lt_or_ge j (m - 1) with h | h
            · exact hs j (m - 1) h (by omega)
            · obtain rfl : j = m - 1 := by omega
              exact ahd_irrefl _
          exact absurd (ahd_total h3 h4) hne
      · rw [List.mem_append, h2]
        constructor
        · rintro (⟨j, hj, e⟩ | e)
          · exact ⟨j, by omega, e⟩
          · exact ⟨m, by omega, (List.mem_singleton.1 e).symm⟩
        · rintro ⟨j, hj, e⟩
          by_cases hjm : j < m
          · exact .inl ⟨j, hjm, e⟩
          · obtain rfl : j = m := by omega
            exact .inr (by simp [e])
    | false =>
      rw [if_neg (by simp), List.append_nil]
      simp only [Lib.keeps, decide_eq_false_iff_not, not_or] at hk
      obtain ⟨hm0, hne⟩ := hk
      have hne : d[m]! = d[m - 1]! := Classical.not_not.1 hne
      refine ⟨h1, fun a => ?_⟩
      rw [h2]
      constructor
      · rintro ⟨j, hj, e⟩; exact ⟨j, by omega, e⟩
      · rintro ⟨j, hj, e⟩
        by_cases hjm : j < m
        · exact ⟨j, hjm, e⟩
        · obtain rfl : j = m := by omega
          exact ⟨j - 1, by omega, by rw [← hne]; exact e⟩
theorem compact_canon (c zs : List Int) (hp : ∀ a, a ∈ zs ↔ a ∈ c) (hs : zs.Pairwise fun a b => ahd b a = false) : Lib.compact zs = canonI c := by
  obtain ⟨h1, h2⟩ := compact_upto zs.toArray (fun i j hij hj => by
    simp only [List.size_toArray] at hj
    have := List.pairwise_iff_getElem.1 hs i j (by omega) hj hij
    rw [getElem!_pos zs.toArray j (by simpa using hj), getElem!_pos zs.toArray i (by simp; omega)]
    simpa using this) zs.length (by simp)
  refine canonI_of c _ h1 fun a => ?_
  rw [← hp]
  refine (h2 a).trans ⟨?_, fun ha => ?_⟩
  · rintro ⟨j, hj, e⟩
    rw [getElem!_pos zs.toArray j (by simpa using hj)] at e
    rw [← e]
    simp
  · obtain ⟨j, hj, e⟩ := List.getElem_of_mem ha
    exact ⟨j, hj, by rw [getElem!_pos zs.toArray j (by simpa using hj)]; simpa using e⟩
end Go.Proofs.Ytbcabcdgblmnkaa
