/- Rows of rational numbers. -/
import Derived.Test.YtlbbbafehhdpnaaDoorLawBoth
import Derived.Test.YtlbbbafehhdpnaaDoorRatE
import Derived.Test.YtlbbbafehhdpnaaDoorNatGcd
namespace Go.Proofs.YtlbbbafehhdpnaaDoor
open Go.RowKit
set_option linter.unusedVariables false
set_option linter.unusedSimpArgs false

def ratL (b : RB) (q : Rat) : List Value := [.bool (ratNeg q), .slice b.A b.n b.c, .slice b.A2 b.n2 b.c2]
def ratsL (l : List (RB × Rat)) : List Value := l.flatMap fun p => ratL p.1 p.2
theorem ratsL_len : ∀ l : List (RB × Rat), (ratsL l).length = l.length * 3
  | [] => rfl
  | p :: l => by
    have := ratsL_len l
    unfold ratsL at this ⊢
    rw [List.flatMap_cons, List.length_append, this]
    simp [ratL]
    omega
theorem ratsL_app (l m : List (RB × Rat)) : ratsL (l ++ m) = ratsL l ++ ratsL m := List.flatMap_append
theorem ratsL_at : ∀ (l : List (RB × Rat)) (k : Nat) (p : RB × Rat), l[k]? = some p → (ratsL l)[k * 3]? = some (.bool (ratNeg p.2)) ∧ (ratsL l)[k * 3 + 1]? = some (.slice p.1.A p.1.n p.1.c) ∧ (ratsL l)[k * 3 + 2]? = some (.slice p.1.A2 p.1.n2 p.1.c2)
  | [], k, p, h => by simp at h
  | p' :: l, 0, p, h => by
    simp at h
    subst h
    unfold ratsL
    rw [List.flatMap_cons]
    simp [ratL]
  | p' :: l, k + 1, p, h => by
    have ih := ratsL_at l k p (by simpa using h)
    have e : ratsL (p' :: l) = ratL p'.1 p'.2 ++ ratsL l := List.flatMap_cons
    have hl : (ratL p'.1 p'.2).length = 3 := rfl
    rw [e, show (k + 1) * 3 = (ratL p'.1 p'.2).length + k * 3 by rw [hl]; omega]
    refine ⟨?_, ?_, ?_⟩
    · rw [List.getElem?_append_right (by omega)]
      simpa using ih.1
    · rw [List.getElem?_append_right (by omega), show (ratL p'.1 p'.2).length + k * 3 + 1 - (ratL p'.1 p'.2).length = k * 3 + 1 by omega]
      exact ih.2.1
    · rw [List.getElem?_append_right (by omega), show (ratL p'.1 p'.2).length + k * 3 + 2 - (ratL p'.1 p'.2).length = k * 3 + 2 by omega]
      exact ih.2.2
/-- the slice owns these numbers. -/
structure Rats (w : World) (v : Value) (l : List (RB × Rat)) (k : Nat) : Prop where
  own : w.ownsRow 0 50 3 v l.length (ratsL l)
  each : ∀ p ∈ l, RatAt w p.1 p.2 ∧ RatLe p.2 k
theorem Rats.below {w w' : World} {v : Value} {l : List (RB × Rat)} {k : Nat} (h : Rats w v l k) (hb : Below w.heap.size w w') : Rats w' v l k := ⟨own_below h.own hb, fun p hp => ⟨(h.each p hp).1.below hb, (h.each p hp).2⟩⟩
theorem Rats.form {w : World} {v : Value} {l : List (RB × Rat)} {k : Nat} (h : Rats w v l k) (h0 : 0 < l.length) : ∃ g c, v = .slice (some ⟨g, 0, none⟩) l.length c ∧ g < w.heap.size ∧ l.length ≤ c := by
  obtain ⟨g, c, e, _, h1, h2⟩ := owned_form h.own h0
  exact ⟨g, c, e, h1, h2⟩
theorem Rats.at_ {w : World} {g n c : Nat} {l : List (RB × Rat)} {k i : Nat} (h : Rats w (.slice (some ⟨g, 0, none⟩) n c) l k) (hi : i < l.length) : ∃ (b : RB) (q : Rat), l[i]? = some (b, q) ∧ w.cell? ⟨g, i * 3, none⟩ = some (.bool (ratNeg q)) ∧ w.cell? ⟨g, i * 3 + 1, none⟩ = some (.slice b.A b.n b.c) ∧ w.cell? ⟨g, i * 3 + 2, none⟩ = some (.slice b.A2 b.n2 b.c2) ∧ RatAt w b q ∧ RatLe q k := by
  obtain ⟨b, q⟩ : RB × Rat := l[i]
  have hl : l[i]? = some l[i] := List.getElem?_eq_getElem hi
  obtain ⟨h1, h2, h3⟩ := ratsL_at l i _ hl
  obtain ⟨A, c', e, hc', hrd⟩ := ownsRow_form h.own
  injection e with e1 e2 e3
  subst e1
  obtain ⟨b', off, e', hcell⟩ := hrd.2 (by omega)
  injection e' with e'
  injection e' with e1 e2
  subst e1; subst e2
  refine ⟨l[i].1, l[i].2, hl, ?_, ?_, ?_, h.each _ (List.getElem_mem hi)⟩
  · have := hcell _ _ h1
    rwa [Nat.zero_add] at this
  · have := hcell _ _ h2
    rwa [Nat.zero_add] at this
  · have := hcell _ _ h3
    rwa [Nat.zero_add] at this
theorem rats_le {w : World} {v : Value} {l : List (RB × Rat)} {k : Nat} (h : Rats w v l k) : True := trivial
theorem ratL_one (b : RB) (q : Rat) : ∀ u ∈ ratL b q, u.oneCell' = true := by
  intro u hu
  simp [ratL] at hu
  rcases hu with rfl | rfl | rfl <;> rfl
def absQ (q : Rat) : Rat := if ratNeg q then -q else q
theorem absQ_neg (q : Rat) : ratNeg (absQ q) = false := by
  unfold absQ
  cases h : ratNeg q
  · rw [if_neg (by simp)]; exact h
  · rw [if_pos rfl, (neg_rat q).1, h]; rfl
theorem absQ_at {w : World} {b : RB} {q : Rat} (h : RatAt w b q) : RatAt w b (absQ q) := by
  unfold absQ
  split
  · exact ratAt_neg h
  · exact h
theorem absQ_le {q : Rat} {k : Nat} (h : RatLe q k) : RatLe (absQ q) k := by
  unfold absQ
  split
  · exact neg_le h
  · exact h
theorem RatLe.up {q : Rat} {a b : Nat} (h : RatLe q a) (hab : a ≤ b) : RatLe q b := ⟨Nat.le_trans h.num hab, Nat.le_trans h.den hab⟩
theorem info_rat : (Tryd.prog.info? 50).map (fun i => (i.zero, i.size, i.bytes)) = some (some (.agg #[.bool false, .slice none 0 0, .slice none 0 0]), 3, 56) := by kernel_rfl
theorem zero_at (w : World) : RatAt w ⟨none, 0, 0, none, 0, 0⟩ 0 := by
  refine ⟨?_, ?_⟩
  · rw [show (0 : Rat).num.natAbs = 0 by decide, limbs_zero]; exact Num.nil_ w
  · unfold ratDen; rw [if_pos (by decide)]; exact Num.nil_ w
theorem zero_neg : ratNeg 0 = false := by decide
theorem zero_le (k : Nat) (h : 1 ≤ k) : RatLe 0 k := by
  refine ⟨?_, ?_⟩
  · rw [show (0 : Rat).num.natAbs = 0 by decide, limbs_zero]; exact Nat.zero_le _
  · rw [show (0 : Rat).den = 1 by decide, limbs_pos 1 (by decide), show 1 / 4294967296 = 0 by decide, limbs_zero]; exact h
theorem div_le {p q : Rat} {k : Nat} (hp : RatLe p k) (hq : RatLe q k) (h : q ≠ 0) : RatLe (p / q) (k + k) := by
  rw [Rat.div_def]
  exact mul_le hp (inv_le hq h)
theorem div_cases (b1 b2 : RB) (p q : Rat) (w : World) (h1 : RatAt w b1 p) (h2 : RatAt w b2 q) (z : Nat) (hz : z ≤ 1000000) (h0 : 1 ≤ z) (l1 : RatLe p z) (l2 : RatLe q z) :
    Calls Tryd.prog 31 #[b1.val (ratNeg p), b2.val (ratNeg q)] w fun e w' => ∃ (b : RB) (r : Rat), e = .returned (.tuple #[b.val (ratNeg r), .bool (decide (q ≠ 0))]) ∧ RatAt w' b r ∧ RatLe r (z + z) ∧ Below w.heap.size w w' := by
  by_cases hq : q = 0
  · have hn : b2.n = 0 := (ratNum_nil h2).2 (by rw [hq]; decide)
    refine (div_zero b1 b2 (ratNeg p) (ratNeg q) w hn).mono ?_
    rintro e w' ⟨rfl, hb⟩
    refine ⟨⟨none, 0, 0, none, 0, 0⟩, 0, ?_, zero_at w', zero_le _ (by omega), hb⟩
    rw [zero_neg, decide_eq_false (by simp [hq])]
    rfl
  · refine (div_any b1 b2 p q w h1 h2 z hz l1 l2 hq).mono ?_
    rintro e w' ⟨b, rfl, hr, hb⟩
    exact ⟨b, p / q, by rw [decide_eq_true hq], hr, div_le l1 l2 hq, hb⟩
theorem ratsL_no : ∀ (l : List (RB × Rat)) (u : Value), u ∈ ratsL l → ∀ k, u ≠ .int .u32 k := by
  intro l u hu k e
  obtain ⟨p, _, hp⟩ := List.mem_flatMap.1 hu
  subst e
  simp [ratL] at hp
theorem Rats.fr {w w' : World} {v : Value} {l m : List (RB × Rat)} {k g : Nat} {e : TypeId} (h : Rats w v l k) (hf : Fr (fun b => b = g) w w') (hg : w.heap[g]? = some (.cells (ratsL m).toArray e (0, 0))) : ∀ p ∈ l, RatAt w' p.1 p.2 ∧ RatLe p.2 k := fun p hp => by
  refine ⟨(h.each p hp).1.fr hf ?_, (h.each p hp).2⟩
  intro b i j hb e
  subst hb
  rw [cell_of_blk hg i] at e
  have := Array.mem_of_getElem? e
  exact ratsL_no m _ (by simpa using this) j rfl
theorem rat_fr {w w' : World} {m : List (RB × Rat)} {g : Nat} {e : TypeId} {b : RB} {q : Rat} (h : RatAt w b q) (hf : Fr (fun b => b = g) w w') (hg : w.heap[g]? = some (.cells (ratsL m).toArray e (0, 0))) : RatAt w' b q := by
  refine h.fr hf ?_
  intro b i j hb e
  subst hb
  rw [cell_of_blk hg i] at e
  have := Array.mem_of_getElem? e
  exact ratsL_no m _ (by simpa using this) j rfl
theorem gcd_one_num {w : World} {A A2 : Option Addr} {n c n2 c2 : Nat} {q : Rat} (h : Num w A n c (limbs q.num.natAbs)) (h2 : Num w A2 n2 c2 (limbs q.den)) (hl : RatLe q 40) :
    Calls Tryd.prog 35 #[.slice A n c, .slice A2 n2 c2] w fun e w' => ∃ (bk off c' : Nat), e = .returned (.slice (some ⟨bk, off, none⟩) 1 c') ∧ w'.cell? ⟨bk, off, none⟩ = some (.int .u32 1) ∧ 1 ≤ c' ∧ Below w.heap.size w w' := by
  refine (gcd_num h h2 (by have := hl.num; omega) (by have := hl.den; omega)).mono ?_
  rintro e w' ⟨A', n', c', rfl, hn, hb⟩
  rw [lv_limbs, lv_limbs, rat_gcd, limbs_pos 1 (by decide), show 1 / 4294967296 = 0 by decide, limbs_zero] at hn
  have h1 := hn.len
  simp at h1
  subst h1
  obtain ⟨bk, off, e, hc⟩ := hn.rd.2 (by decide)
  subst e
  exact ⟨bk, off, c', rfl, hc 0 _ rfl, hn.cap, hb⟩
theorem make_self {w : World} {A A2 : Option Addr} {n c n2 c2 : Nat} {q : Rat} (h : Num w A n c (limbs q.num.natAbs)) (h2 : Num w A2 n2 c2 (limbs q.den)) (hl : RatLe q 40) :
    Calls Tryd.prog 33 #[.bool (ratNeg q), .slice A n c, .slice A2 n2 c2] w fun e w' => ∃ b : RB, e = .returned (.tuple #[.agg #[.bool (ratNeg q), .slice b.A b.n b.c, .slice b.A2 b.n2 b.c2], .bool true]) ∧ RatAt w' b q ∧ Below w.heap.size w w' := by
  have := make_any (ratNeg q) h h2 (by have := hl.num; omega) (by have := hl.den; omega) (by rw [lv_limbs]; exact q.den_pos)
  rw [lv_limbs, lv_limbs, mk_self] at this
  exact this
theorem alike_self {b1 b2 : RB} {q : Rat} {w : World} (h1 : RatAt w b1 q) (h2 : RatAt w b2 q) (hl : RatLe q 40) :
    Calls Tryd.prog 34 #[.agg #[.bool (ratNeg q), .slice b1.A b1.n b1.c, .slice b1.A2 b1.n2 b1.c2], .agg #[.bool (ratNeg q), .slice b2.A b2.n b2.c, .slice b2.A2 b2.n2 b2.c2]] w fun e w' => e = .returned (.bool true) ∧ Below w.heap.size w w' := by
  have := alike_any b1 b2 q q w h1 h2 40 (by decide) hl hl
  rw [decide_eq_true rfl] at this
  exact this
end Go.Proofs.YtlbbbafehhdpnaaDoor
