/- What a node means: the truth of every node, and of what an operation answers. No program in sight. -/
import Derived.Test.YtbcabcdgblmnkaaNodeSpec
namespace Go.Proofs.Ytbcabcdgblmnkaa
open Go.RowKit
set_option linter.unusedVariables false
set_option linter.unusedSimpArgs false

/-- the truth of a node, by the truths of what is ahead of it. -/
def ev1 (vals : List Bool) (is : Nat → Bool) (n : Nd) : Bool :=
  if n.k = 2 then true else if n.k = 3 then vals.getD n.a.toNat false else if n.k = 4 then !(is n.a.toNat)
  else if n.k = 5 then is n.a.toNat && is n.b.toNat else if n.k = 6 then is n.a.toNat || is n.b.toNat else false
def evL (ns : List Nd) (vals : List Bool) : Nat → List Bool
  | 0 => []
  | k + 1 => evL ns vals k ++ [ev1 vals (fun m => (evL ns vals k).getD m false) (nd ns k)]
def ev (ns : List Nd) (vals : List Bool) (i : Nat) : Bool := ev1 vals (fun m => (evL ns vals i).getD m false) (nd ns i)

theorem evL_length (ns : List Nd) (vals : List Bool) (k : Nat) : (evL ns vals k).length = k := by
  induction k with
  | zero => rfl
  | succ k ih => simp [evL, ih]
theorem evL_get (ns : List Nd) (vals : List Bool) (k i : Nat) (h : i < k) : (evL ns vals k)[i]? = some (ev ns vals i) := by
  induction k with
  | zero => omega
  | succ k ih =>
    simp only [evL]
    by_cases hk : i < k
    · rw [List.getElem?_append_left (by rw [evL_length]; exact hk)]
      exact ih hk
    · obtain rfl : i = k := by omega
      rw [List.getElem?_append_right (by rw [evL_length]; omega), evL_length]
      simp [ev]
theorem evL_getD (ns : List Nd) (vals : List Bool) (k i : Nat) (h : i < k) : (evL ns vals k).getD i false = ev ns vals i := by
  rw [List.getD_eq_getElem?_getD, evL_get ns vals k i h]
  rfl
theorem evL_grow (ns ms : List Nd) (vals : List Bool) (k : Nat) (h : k ≤ ns.length) : evL (ns ++ ms) vals k = evL ns vals k := by
  induction k with
  | zero => rfl
  | succ k ih => simp only [evL]; rw [ih (by omega), nd_append_lt _ _ _ (by omega)]
theorem ev_grow (ns ms : List Nd) (vals : List Bool) (k : Nat) (h : k < ns.length) : ev (ns ++ ms) vals k = ev ns vals k := by
  unfold ev
  rw [evL_grow _ _ _ _ (by omega), nd_append_lt _ _ _ h]
/-- the parts of a node lie ahead of it. -/
theorem Part.lt {ns : List Nd} {i : Nat} {n : Nd} (h : Part ns i n) : (n.k = 4 → n.a.toNat < i) ∧ (n.k = 5 ∨ n.k = 6 → n.a.toNat < i ∧ n.b.toNat < i) := by
  rcases h with ⟨h1, _⟩ | ⟨h1, h2, h3, _⟩ | ⟨h1, h2, h3, h4⟩
  · exact ⟨fun h => by omega, fun h => by omega⟩
  · exact ⟨fun h => by omega, fun h => by omega⟩
  · exact ⟨fun h => by omega, fun h => by omega⟩
theorem ev1_congr (vals : List Bool) (f g : Nat → Bool) (n : Nd) (h4 : n.k = 4 → f n.a.toNat = g n.a.toNat) (h5 : n.k = 5 ∨ n.k = 6 → f n.a.toNat = g n.a.toNat ∧ f n.b.toNat = g n.b.toNat) : ev1 vals f n = ev1 vals g n := by
  unfold ev1
  split
  · rfl
  split
  · rfl
  split
  · rename_i h; rw [h4 h]
  split
  · rename_i h; rw [(h5 (.inl h)).1, (h5 (.inl h)).2]
  split
  · rename_i h; rw [(h5 (.inr h)).1, (h5 (.inr h)).2]
  · rfl
theorem ev_part {ns : List Nd} {i : Nat} (vals : List Bool) (h : Part ns i (nd ns i)) : ev ns vals i = ev1 vals (ev ns vals) (nd ns i) := by
  obtain ⟨h4, h5⟩ := h.lt
  exact ev1_congr _ _ _ _ (fun e => evL_getD _ _ _ _ (h4 e)) (fun e => ⟨evL_getD _ _ _ _ (h5 e).1, evL_getD _ _ _ _ (h5 e).2⟩)
theorem Good.ev {ns : List Nd} (h : Good ns) (vals : List Bool) (i : Nat) (hi : i < ns.length) : Proofs.Ytbcabcdgblmnkaa.ev ns vals i = ev1 vals (Proofs.Ytbcabcdgblmnkaa.ev ns vals) (nd ns i) := by
  by_cases h2 : 2 ≤ i
  · exact ev_part vals (h.parts i h2 hi)
  · have : i = 0 ∨ i = 1 := by omega
    rcases this with rfl | rfl
    · simp [Proofs.Ytbcabcdgblmnkaa.ev, ev1, h.n0]
    · simp [Proofs.Ytbcabcdgblmnkaa.ev, ev1, h.n1]
theorem Good.ev0 {ns : List Nd} (h : Good ns) (vals : List Bool) : Proofs.Ytbcabcdgblmnkaa.ev ns vals 0 = false := by simp [Proofs.Ytbcabcdgblmnkaa.ev, ev1, h.n0]
theorem Good.ev1_ {ns : List Nd} (h : Good ns) (vals : List Bool) : Proofs.Ytbcabcdgblmnkaa.ev ns vals 1 = true := by simp [Proofs.Ytbcabcdgblmnkaa.ev, ev1, h.n1]

theorem put_ev {ns : List Nd} (h : Good ns) (vals : List Bool) (n : Nd) (hp : Part ns ns.length n) (j : Nat) (hj : (putN ns n).2 = some j) :
    j < (putN ns n).1.length ∧ ev (putN ns n).1 vals j = ev1 vals (ev ns vals) n := by
  unfold putN at *
  cases hf : fidx ns n 0 with
  | some i =>
    rw [hf] at hj
    simp only [Option.some.injEq] at hj
    subst hj
    obtain ⟨_, h2, h3, _⟩ := fidx_some ns n 0 i hf
    rw [Nat.sub_zero] at h2 h3
    refine ⟨h2, ?_⟩
    rw [h.ev vals i h2, h3]
  | none =>
    rw [hf] at hj
    by_cases hm : ns.length < 20000
    · simp only [hm, if_true, Option.some.injEq] at hj ⊢
      subst hj
      refine ⟨by simp, ?_⟩
      have hg := h.put n hp
      unfold putN at hg
      rw [hf] at hg
      simp only [hm, if_true] at hg
      rw [hg.ev vals ns.length (by simp), nd_snoc]
      obtain ⟨h4, h5⟩ := hp.lt
      exact ev1_congr _ _ _ _ (fun e => ev_grow _ _ _ _ (h4 e)) (fun e => ⟨ev_grow _ _ _ _ (h5 e).1, ev_grow _ _ _ _ (h5 e).2⟩)
    · simp only [hm, if_false] at hj
      cases hj

theorem not_ev {ns : List Nd} (h : Good ns) (vals : List Bool) (a : Nat) (ha : a < ns.length) (j : Nat) (hj : (notN ns a).2 = some j) :
    j < (notN ns a).1.length ∧ ev (notN ns a).1 vals j = !(ev ns vals a) := by
  have he := h.ev vals a ha
  have h2 := h.two
  unfold notN at *
  by_cases k1 : (nd ns a).k = 1
  · simp only [k1, if_true, Option.some.injEq] at hj ⊢
    subst hj
    exact ⟨by omega, by rw [h.ev1_, he]; simp [ev1, k1]⟩
  by_cases k2 : (nd ns a).k = 2
  · have e : ¬ ((2 : Int) = 1) := by decide
    simp only [k1, k2, e, if_true, if_false, Option.some.injEq] at hj ⊢
    subst hj
    exact ⟨by omega, by rw [h.ev0, he]; simp [ev1, k2]⟩
  by_cases k4 : (nd ns a).k = 4
  · simp only [k1, k2, k4, if_true, if_false, Option.some.injEq] at hj ⊢
    have e : ¬ ((4 : Int) = 1) := by decide
    have e' : ¬ ((4 : Int) = 2) := by decide
    simp only [e, e', if_false, Option.some.injEq] at hj ⊢
    subst hj
    have hlow := h.low a (by omega) (by omega)
    have hp := (h.parts a hlow ha).lt.1 k4
    exact ⟨by omega, by rw [he]; simp [ev1, k4]⟩
  · simp only [k1, k2, k4, if_false] at hj ⊢
    have hlow := h.low a k1 k2
    obtain ⟨r1, r2⟩ := put_ev h vals ⟨4, a, 0⟩ (.inr (.inl ⟨rfl, by simp only; omega, by simp only; omega, rfl, by simpa using k4⟩)) j hj
    exact ⟨r1, by rw [r2]; simp [ev1]⟩

theorem opp_ev {ns : List Nd} (h : Good ns) (vals : List Bool) (a b : Nat) (ha : a < ns.length) (hb : b < ns.length) (ho : oppN ns a b = true) : ev ns vals a = !(ev ns vals b) := by
  simp only [oppN, Bool.or_eq_true, Bool.and_eq_true, decide_eq_true_eq] at ho
  rcases ho with ⟨h1, h2⟩ | ⟨h1, h2⟩
  · rw [h.ev vals a ha]
    simp [ev1, h1, h2]
  · rw [h.ev vals b hb]
    simp [ev1, h1, h2]

def pairB (kind : Int) (x y : Bool) : Bool := if kind = 5 then x && y else x || y
theorem pair_ev {ns : List Nd} (h : Good ns) (vals : List Bool) (kind : Int) (a b u z : Nat) (ha : a < ns.length) (hb : b < ns.length) (hk : (kind = 5 ∧ u = 1 ∧ z = 0) ∨ (kind = 6 ∧ u = 0 ∧ z = 1)) (j : Nat) (hj : (pairN ns kind a b u z).2 = some j) :
    j < (pairN ns kind a b u z).1.length ∧ ev (pairN ns kind a b u z).1 vals j = pairB kind (ev ns vals a) (ev ns vals b) := by
  have h2 := h.two
  have hz : ev ns vals z = decide (kind = 6) := by rcases hk with ⟨rfl, rfl, rfl⟩ | ⟨rfl, rfl, rfl⟩; exact h.ev0 vals; exact h.ev1_ vals
  have hu : ev ns vals u = decide (kind = 5) := by rcases hk with ⟨rfl, rfl, rfl⟩ | ⟨rfl, rfl, rfl⟩; exact h.ev1_ vals; exact h.ev0 vals
  have hk' : kind = 5 ∨ kind = 6 := by omega
  unfold pairN at *
  by_cases g1 : a = z ∨ b = z ∨ oppN ns a b = true
  · simp only [g1, if_true, Option.some.injEq] at hj ⊢
    subst hj
    refine ⟨by omega, ?_⟩
    rw [hz]
    rcases g1 with rfl | rfl | g
    · rw [hz]; rcases hk' with rfl | rfl <;> simp [pairB]
    · rw [hz]; rcases hk' with rfl | rfl <;> simp [pairB]
    · rw [opp_ev h vals a b ha hb g]; rcases hk' with rfl | rfl <;> cases ev ns vals b <;> simp [pairB]
  simp only [g1, if_false] at hj ⊢
  by_cases g2 : a = u ∨ a = b
  · simp only [g2, if_true, Option.some.injEq] at hj ⊢
    subst hj
    refine ⟨hb, ?_⟩
    rcases g2 with rfl | rfl
    · rw [hu]; rcases hk' with rfl | rfl <;> simp [pairB]
    · rcases hk' with rfl | rfl <;> simp [pairB]
  simp only [g2, if_false] at hj ⊢
  by_cases g3 : b = u
  · simp only [g3, if_true, Option.some.injEq] at hj ⊢
    subst hj
    refine ⟨ha, ?_⟩
    subst g3
    rw [hu]; rcases hk' with rfl | rfl <;> simp [pairB]
  simp only [g3, if_false] at hj ⊢
  have la : 2 ≤ a := by omega
  have lb : 2 ≤ b := by omega
  obtain ⟨r1, r2⟩ := put_ev h vals ⟨kind, (min a b : Nat), (max a b : Nat)⟩ (.inr (.inr ⟨hk', by simp only; omega, by simp only; omega, by simp only; omega⟩)) j hj
  refine ⟨r1, ?_⟩
  rw [r2]
  rcases Nat.le_total a b with hab | hab
  · rcases hk' with rfl | rfl <;> simp [pairB, ev1, Nat.min_eq_left hab, Nat.max_eq_right hab]
  · rcases hk' with rfl | rfl <;> simp [pairB, ev1, Nat.min_eq_right hab, Nat.max_eq_left hab, Bool.and_comm, Bool.or_comm]

/-- what an operation means, and whether it can be. -/
def wantN (ns : List Nd) (vals : List Bool) (o : Nd) : Bool :=
  if o.k = 2 then true else if o.k = 3 then decide (0 ≤ o.a) && vals.getD o.a.toNat false
  else if o.k = 4 then !(inB ns o.a && ev ns vals o.a.toNat) else if o.k = 5 then (inB ns o.a && ev ns vals o.a.toNat) && (inB ns o.b && ev ns vals o.b.toNat)
  else if o.k = 6 then (inB ns o.a && ev ns vals o.a.toNat) || (inB ns o.b && ev ns vals o.b.toNat) else false
def mayN (ns : List Nd) (o : Nd) : Bool :=
  if o.k = 1 then true else if o.k = 2 then true else if o.k = 3 then decide (0 ≤ o.a) else if o.k = 4 then inB ns o.a else if o.k = 5 then inB ns o.a && inB ns o.b else if o.k = 6 then inB ns o.a && inB ns o.b else false

theorem do_ev {ns : List Nd} (h : Good ns) (vals : List Bool) (o : Nd) (j : Nat) (hj : (doN ns o).2 = some j) :
    j < (doN ns o).1.length ∧ ev (doN ns o).1 vals j = wantN ns vals o := by
  have h2 := h.two
  unfold doN wantN at *
  by_cases k1 : o.k = 1
  · simp only [k1, if_true, Option.some.injEq] at hj ⊢
    subst hj
    exact ⟨by omega, by rw [h.ev0]; simp⟩
  by_cases k2 : o.k = 2
  · simp only [k1, k2, if_true, if_false, Option.some.injEq] at hj ⊢
    have e : ¬ ((2 : Int) = 1) := by decide
    simp only [e, if_false, Option.some.injEq] at hj ⊢
    subst hj
    exact ⟨by omega, by rw [h.ev1_]⟩
  by_cases k3 : o.k = 3
  · simp only [k1, k2, k3, if_true, if_false] at hj ⊢
    have e : ¬ ((3 : Int) = 1) := by decide
    have e' : ¬ ((3 : Int) = 2) := by decide
    simp only [e, e', if_false] at hj ⊢
    by_cases ha : 0 ≤ o.a
    · simp only [ha, if_true] at hj ⊢
      obtain ⟨r1, r2⟩ := put_ev h vals ⟨3, o.a, 0⟩ (.inl ⟨rfl, ha, rfl⟩) j hj
      exact ⟨r1, by rw [r2]; simp [ev1]⟩
    · simp only [ha, if_false] at hj
      cases hj
  by_cases k4 : o.k = 4
  · simp only [k1, k2, k3, k4, if_true, if_false] at hj ⊢
    have e : ¬ ((4 : Int) = 1) := by decide
    have e' : ¬ ((4 : Int) = 2) := by decide
    have e'' : ¬ ((4 : Int) = 3) := by decide
    simp only [e, e', e'', if_false] at hj ⊢
    cases ha : inB ns o.a with
    | true =>
      simp only [ha, if_true] at hj ⊢
      obtain ⟨r1, r2⟩ := not_ev h vals _ (inB_nat ha) j hj
      exact ⟨r1, by rw [r2]; simp⟩
    | false =>
      rw [ha] at hj
      simp at hj
  by_cases k5 : o.k = 5
  · simp only [k1, k2, k3, k4, k5, if_true, if_false] at hj ⊢
    have e : ¬ ((5 : Int) = 1) := by decide
    have e' : ¬ ((5 : Int) = 2) := by decide
    have e'' : ¬ ((5 : Int) = 3) := by decide
    have e4 : ¬ ((5 : Int) = 4) := by decide
    simp only [e, e', e'', e4, if_false] at hj ⊢
    cases ha : inB ns o.a with
    | true =>
      cases hb : inB ns o.b with
      | true =>
        simp only [ha, hb, Bool.and_self, if_true] at hj ⊢
        obtain ⟨r1, r2⟩ := pair_ev h vals 5 _ _ 1 0 (inB_nat ha) (inB_nat hb) (.inl ⟨rfl, rfl, rfl⟩) j hj
        exact ⟨r1, by rw [r2]; simp [pairB]⟩
      | false => rw [ha, hb] at hj; simp at hj
    | false => rw [ha] at hj; simp at hj
  by_cases k6 : o.k = 6
  · simp only [k1, k2, k3, k4, k5, k6, if_true, if_false] at hj ⊢
    have e : ¬ ((6 : Int) = 1) := by decide
    have e' : ¬ ((6 : Int) = 2) := by decide
    have e'' : ¬ ((6 : Int) = 3) := by decide
    have e4 : ¬ ((6 : Int) = 4) := by decide
    have e5 : ¬ ((6 : Int) = 5) := by decide
    simp only [e, e', e'', e4, e5, if_false] at hj ⊢
    cases ha : inB ns o.a with
    | true =>
      cases hb : inB ns o.b with
      | true =>
        simp only [ha, hb, Bool.and_self, if_true] at hj ⊢
        obtain ⟨r1, r2⟩ := pair_ev h vals 6 _ _ 0 1 (inB_nat ha) (inB_nat hb) (.inr ⟨rfl, rfl, rfl⟩) j hj
        exact ⟨r1, by rw [r2]; simp [pairB]⟩
      | false => rw [ha, hb] at hj; simp at hj
    | false => rw [ha] at hj; simp at hj
  · simp only [k1, k2, k3, k4, k5, k6, if_false] at hj
    cases hj

/-- below the limit an operation is done just where it may be. -/
theorem put_some (ns : List Nd) (n : Nd) (hl : ns.length < 20000) : (putN ns n).2.isSome = true := by
  unfold putN
  cases fidx ns n 0 with
  | some i => rfl
  | none => simp [hl]
theorem not_some (ns : List Nd) (a : Nat) (hl : ns.length < 20000) : (notN ns a).2.isSome = true := by
  unfold notN
  split
  · rfl
  split
  · rfl
  split
  · rfl
  · exact put_some _ _ hl
theorem pair_some (ns : List Nd) (kind : Int) (a b u z : Nat) (hl : ns.length < 20000) : (pairN ns kind a b u z).2.isSome = true := by
  unfold pairN
  split
  · rfl
  split
  · rfl
  split
  · rfl
  · exact put_some _ _ hl
theorem do_may (ns : List Nd) (o : Nd) (hl : ns.length < 20000) : (doN ns o).2.isSome = mayN ns o := by
  unfold doN mayN
  split
  · rfl
  split
  · rfl
  split
  · split
    · rename_i h; rw [put_some _ _ hl]; simp [h]
    · rename_i h; simp [h]
  split
  · cases inB ns o.a with
    | true => simp [not_some _ _ hl]
    | false => simp
  split
  · cases inB ns o.a && inB ns o.b with
    | true => simp [pair_some _ _ _ _ _ _ hl]
    | false => simp
  split
  · cases inB ns o.a && inB ns o.b with
    | true => simp [pair_some _ _ _ _ _ _ hl]
    | false => simp
  · rfl
end Go.Proofs.Ytbcabcdgblmnkaa
