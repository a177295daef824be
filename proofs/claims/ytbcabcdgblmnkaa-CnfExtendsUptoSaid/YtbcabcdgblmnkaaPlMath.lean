/- Formulas put into a table of parts: what comes out, and that it is true where the formula is. No program in sight. -/
import Derived.Test.YtbcabcdgblmnkaaNodeEv
import Derived.Test.YtbcabcdgblmnkaaFmEval
import Derived.Test.YtbcabcdgblmnkaaFmMath
namespace Go.Proofs.Ytbcabcdgblmnkaa
open Go.RowKit
set_option linter.unusedVariables false
set_option linter.unusedSimpArgs false

def dAns (p : List Nd × Option Nat) : List Nd × Nat := (p.1, p.2.getD 0)
mutual
/-- the table behind a formula's placing, and its number. -/
def placeF : Fm → List Nd → List Nd × Nat
  | .mk k a sub, ns => if k = 1 then dAns (doN ns ⟨3, a, 0⟩) else if k = 2 then placeN sub ns else if k = 6 then (ns, 0) else if k = 4 then placeL sub 6 ns 0 else placeL sub 5 ns 1
def placeN : List Fm → List Nd → List Nd × Nat
  | [], ns => (ns, 0)
  | s :: _, ns => dAns (doN (placeF s ns).1 ⟨4, (placeF s ns).2, 0⟩)
def placeL : List Fm → Int → List Nd → Nat → List Nd × Nat
  | [], _, ns, n => (ns, n)
  | s :: ss, kind, ns, n => placeL ss kind (dAns (doN (placeF s ns).1 ⟨kind, n, (placeF s ns).2⟩)).1 (dAns (doN (placeF s ns).1 ⟨kind, n, (placeF s ns).2⟩)).2
end

theorem put_pre (ns : List Nd) (n : Nd) : ∃ ms, (putN ns n).1 = ns ++ ms := by
  unfold putN
  cases fidx ns n 0 with
  | some i => exact ⟨[], by simp⟩
  | none => by_cases hm : ns.length < 20000 <;> simp [hm]
theorem doN_cases (P : List Nd → Prop) (ns : List Nd) (o : Nd) (h0 : P ns) (h1 : ∀ n, P (putN ns n).1) : P (doN ns o).1 := by
  unfold doN notN pairN
  repeat' split
  all_goals first | exact h1 _ | exact h0
theorem doN_pre (ns : List Nd) (o : Nd) : ∃ ms, (doN ns o).1 = ns ++ ms := doN_cases (fun x => ∃ ms, x = ns ++ ms) ns o ⟨[], by simp⟩ (put_pre ns)
theorem put_len (ns : List Nd) (n : Nd) : (putN ns n).1.length ≤ ns.length + 1 := by
  unfold putN
  cases fidx ns n 0 with
  | some i => simp
  | none => by_cases hm : ns.length < 20000 <;> simp [hm]
theorem doN_len (ns : List Nd) (o : Nd) : (doN ns o).1.length ≤ ns.length + 1 := by
  unfold doN notN pairN
  repeat' split
  all_goals first | exact put_len _ _ | simp
mutual
theorem place_good (f : Fm) (ns : List Nd) (h : Good ns) : Good (placeF f ns).1 := by
  cases f with
  | mk k a sub =>
    rw [placeF]
    split
    · exact h.doN _
    split
    · exact place_goodN sub ns h
    split
    · exact h
    split
    · exact place_goodL sub _ ns _ h
    · exact place_goodL sub _ ns _ h
theorem place_goodN (fs : List Fm) (ns : List Nd) (h : Good ns) : Good (placeN fs ns).1 := by
  cases fs with
  | nil => rw [placeN]; exact h
  | cons f fs => rw [placeN]; exact (place_good f ns h).doN _
theorem place_goodL (fs : List Fm) (kind : Int) (ns : List Nd) (n : Nat) (h : Good ns) : Good (placeL fs kind ns n).1 := by
  cases fs with
  | nil => rw [placeL]; exact h
  | cons f fs => rw [placeL]; exact place_goodL fs kind _ _ ((place_good f ns h).doN _)
end

/-- from a table to a greater one, with a node of a known truth. -/
structure PlOk (vals : List Bool) (ns ns' : List Nd) (i : Nat) (b : Bool) (m : Nat) : Prop where
  good : Good ns'
  pre : ∃ ms, ns' = ns ++ ms
  lt : i < ns'.length
  val : ev ns' vals i = b
  len : ns'.length ≤ ns.length + m
theorem PlOk.old {vals : List Bool} {ns ns' : List Nd} {i m : Nat} {b : Bool} (h : PlOk vals ns ns' i b m) (j : Nat) (hj : j < ns.length) : j < ns'.length ∧ ev ns' vals j = ev ns vals j := by
  obtain ⟨ms, rfl⟩ := h.pre
  exact ⟨by rw [List.length_append]; omega, ev_grow ns ms vals j hj⟩
theorem PlOk.trans {vals : List Bool} {ns ns1 ns2 : List Nd} {i1 i2 m1 m2 : Nat} {b1 b2 : Bool} (h1 : PlOk vals ns ns1 i1 b1 m1) (h2 : PlOk vals ns1 ns2 i2 b2 m2) : PlOk vals ns ns2 i2 b2 (m1 + m2) := by
  obtain ⟨a, ha⟩ := h1.pre
  obtain ⟨b, hb⟩ := h2.pre
  have := h1.len
  have := h2.len
  exact ⟨h2.good, ⟨a ++ b, by rw [hb, ha, List.append_assoc]⟩, h2.lt, h2.val, by omega⟩
theorem PlOk.mono {vals : List Bool} {ns ns' : List Nd} {i m m' : Nat} {b : Bool} (h : PlOk vals ns ns' i b m) (hm : m ≤ m') : PlOk vals ns ns' i b m' :=
  ⟨h.good, h.pre, h.lt, h.val, Nat.le_trans h.len (by omega)⟩
theorem PlOk.refl {vals : List Bool} {ns : List Nd} {i : Nat} {b : Bool} (h : Good ns) (hi : i < ns.length) (hv : ev ns vals i = b) : PlOk vals ns ns i b 0 := ⟨h, ⟨[], by simp⟩, hi, hv, by omega⟩
theorem do_getD {ns : List Nd} {o : Nd} (hl : ns.length < 20000) (hm : mayN ns o = true) : (doN ns o).2 = some ((doN ns o).2.getD 0) := by
  have := do_may ns o hl
  rw [hm] at this
  cases h : (doN ns o).2 with
  | none => rw [h] at this; cases this
  | some j => rfl
theorem do_ok {vals : List Bool} {ns : List Nd} (h : Good ns) (o : Nd) (hl : ns.length < 20000) (hm : mayN ns o = true) : PlOk vals ns (dAns (doN ns o)).1 (dAns (doN ns o)).2 (wantN ns vals o) 1 := by
  have h1 := do_getD hl hm
  obtain ⟨h2, h3⟩ := do_ev h vals o _ h1
  exact ⟨h.doN o, doN_pre ns o, h2, h3, doN_len ns o⟩
theorem inB_lt {ns : List Nd} {i : Nat} (h : i < ns.length) : inB ns (i : Int) = true := by simp [inB, h]
theorem may_not {ns : List Nd} {i : Nat} (h : i < ns.length) : mayN ns ⟨4, i, 0⟩ = true := by simp [mayN, inB_lt h]
theorem may_pair {ns : List Nd} {i j : Nat} {kind : Int} (hk : kind = 5 ∨ kind = 6) (h : i < ns.length) (h' : j < ns.length) : mayN ns ⟨kind, i, j⟩ = true := by
  rcases hk with rfl | rfl <;> simp [mayN, inB_lt h, inB_lt h']
theorem want_not {ns : List Nd} {vals : List Bool} {i : Nat} (h : i < ns.length) : wantN ns vals ⟨4, i, 0⟩ = !(ev ns vals i) := by simp [wantN, inB_lt h]
theorem want_pair {ns : List Nd} {vals : List Bool} {i j : Nat} {kind : Int} (hk : kind = 5 ∨ kind = 6) (h : i < ns.length) (h' : j < ns.length) : wantN ns vals ⟨kind, i, j⟩ = pairB kind (ev ns vals i) (ev ns vals j) := by
  rcases hk with rfl | rfl <;> simp [wantN, pairB, inB_lt h, inB_lt h']
def foldB (kind : Int) (b : Bool) (fs : List Fm) (vals : List Bool) : Bool := if kind = 5 then b && evalA fs vals else b || evalO fs vals
theorem foldB_nil (kind : Int) (b : Bool) (vals : List Bool) : foldB kind b [] vals = b := by unfold foldB; split <;> simp [evalA, evalO]
theorem foldB_cons (kind : Int) (b : Bool) (f : Fm) (fs : List Fm) (vals : List Bool) : foldB kind b (f :: fs) vals = foldB kind (pairB kind b (evalF f vals)) fs vals := by
  unfold foldB pairB
  split <;> simp [evalA, evalO, Bool.and_assoc, Bool.or_assoc]
mutual
theorem place_ok (f : Fm) (vals : List Bool) (ns : List Nd) (h : Good ns) (hs : shapeF f vals.length = true) (hl : ns.length + 2 * sizeF f ≤ 20000) : PlOk vals ns (placeF f ns).1 (placeF f ns).2 (evalF f vals) (2 * sizeF f - 1) := by
  cases f with
  | mk k a sub =>
    rw [placeF, evalF]
    rw [shapeF] at hs
    rw [sizeF] at hl ⊢
    have h2 := h.two
    by_cases k1 : k = 1
    · rw [if_pos k1] at hs
      rw [if_pos k1, if_pos k1]
      simp only [Bool.and_eq_true, decide_eq_true_eq] at hs
      have := do_ok (vals := vals) h ⟨3, a, 0⟩ (by omega) (by simp [mayN, hs.1])
      have hw : wantN ns vals ⟨3, a, 0⟩ = vals.getD a.toNat false := by simp [wantN, hs.1]
      rw [hw] at this
      exact this.mono (by omega)
    rw [if_neg k1] at hs
    rw [if_neg k1, if_neg k1]
    by_cases k2 : k = 2
    · rw [if_pos k2, if_pos k2]
      rw [if_neg (by omega), if_pos k2, Bool.and_eq_true] at hs
      exact (place_okN sub vals ns h hs.2 (by simpa using hs.1) (by omega)).mono (by omega)
    rw [if_neg k2, if_neg k2]
    by_cases k6 : k = 6
    · rw [if_pos k6, if_neg (by omega), if_neg (by omega), decide_eq_false (by omega)]
      exact (PlOk.refl h (by omega) (h.ev0 vals)).mono (by omega)
    rw [if_neg k6]
    by_cases k5 : k = 5
    · rw [if_pos (.inl k5), decide_eq_true_eq] at hs
      have hsub : sub = [] := List.eq_nil_of_length_eq_zero hs
      subst hsub
      rw [if_neg (by omega), if_neg (by omega), if_neg (by omega), decide_eq_true k5, placeL]
      exact (PlOk.refl h (by omega) (h.ev1_ vals)).mono (by omega)
    rw [if_neg (by omega), if_neg k2] at hs
    by_cases k3 : k = 3
    · rw [if_pos (.inl k3)] at hs
      rw [if_neg (by omega), if_pos k3]
      have := place_okL sub 5 vals ns 1 true (.inl rfl) h hs (by omega) (h.ev1_ vals) (by omega)
      have e : foldB 5 true sub vals = evalA sub vals := by simp [foldB]
      rw [e] at this
      exact this.mono (by omega)
    by_cases k4 : k = 4
    · rw [if_pos (.inr k4)] at hs
      rw [if_pos k4, if_neg k3, if_pos k4]
      have := place_okL sub 6 vals ns 0 false (.inr rfl) h hs (by omega) (h.ev0 vals) (by omega)
      have e : foldB 6 false sub vals = evalO sub vals := by simp [foldB]
      rw [e] at this
      exact this.mono (by omega)
    · rw [if_neg (by omega)] at hs
      cases hs
theorem place_okN (fs : List Fm) (vals : List Bool) (ns : List Nd) (h : Good ns) (hs : shapeL fs vals.length = true) (h1 : fs.length = 1) (hl : ns.length + 2 * sizeL fs ≤ 20000) : PlOk vals ns (placeN fs ns).1 (placeN fs ns).2 (evalN fs vals) (2 * sizeL fs) := by
  cases fs with
  | nil => simp at h1
  | cons f fs =>
    rw [placeN, evalN]
    rw [shapeL, Bool.and_eq_true] at hs
    rw [sizeL] at hl ⊢
    have hp := sizeF_pos f
    have hf := place_ok f vals ns h hs.1 (by omega)
    have hlen := hf.len
    have := hf.trans (do_ok hf.good ⟨4, (placeF f ns).2, 0⟩ (by omega) (may_not hf.lt))
    rw [want_not hf.lt, hf.val] at this
    exact this.mono (by omega)
theorem place_okL (fs : List Fm) (kind : Int) (vals : List Bool) (ns : List Nd) (n : Nat) (b : Bool) (hk : kind = 5 ∨ kind = 6) (h : Good ns) (hs : shapeL fs vals.length = true) (hn : n < ns.length) (hv : ev ns vals n = b) (hl : ns.length + 2 * sizeL fs ≤ 20000) :
    PlOk vals ns (placeL fs kind ns n).1 (placeL fs kind ns n).2 (foldB kind b fs vals) (2 * sizeL fs) := by
  cases fs with
  | nil =>
    rw [placeL, foldB_nil]
    exact (PlOk.refl h hn hv).mono (by omega)
  | cons f fs =>
    rw [placeL, foldB_cons]
    rw [shapeL, Bool.and_eq_true] at hs
    rw [sizeL] at hl ⊢
    have hp := sizeF_pos f
    have hf := place_ok f vals ns h hs.1 (by omega)
    have hlen := hf.len
    obtain ⟨hn1, hv1⟩ := hf.old n hn
    have hd := do_ok (vals := vals) hf.good ⟨kind, n, (placeF f ns).2⟩ (by omega) (may_pair hk hn1 hf.lt)
    rw [want_pair hk hn1 hf.lt, hv1, hv, hf.val] at hd
    have hdl := hd.len
    have hr := place_okL fs kind vals _ _ _ hk hd.good hs.2 hd.lt hd.val (by omega)
    exact ((hf.trans hd).trans hr).mono (by omega)
end
end Go.Proofs.Ytbcabcdgblmnkaa
