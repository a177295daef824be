/- Contract of package logic: eval. -/
import Derived.Test.YtdpnififbpoagaaFmCheck
import Derived.Test.YtdpnififbpoagaaBools
namespace Go.Proofs.Ytdpnififbpoagaa
open Go.RowKit
set_option linter.unusedVariables false
set_option linter.unusedSimpArgs false

mutual
/-- the truth of a formula in form. -/
def evalF : Fm → List Bool → Bool
  | .mk k a sub, vals => if k = 1 then vals.getD a.toNat false else if k = 2 then evalN sub vals else if k = 3 then evalA sub vals else if k = 4 then evalO sub vals else decide (k = 5)
def evalN : List Fm → List Bool → Bool
  | [], _ => true
  | s :: _, vals => !(evalF s vals)
def evalA : List Fm → List Bool → Bool
  | [], _ => true
  | s :: ss, vals => evalF s vals && evalA ss vals
def evalO : List Fm → List Bool → Bool
  | [], _ => false
  | s :: ss, vals => evalF s vals || evalO ss vals
end
theorem evalA_any (fs : List Fm) (vals : List Bool) : evalA fs vals = !(fs.any fun f => !(evalF f vals)) := by
  induction fs with
  | nil => rfl
  | cons f fs ih => rw [evalA, ih]; simp
theorem evalO_any (fs : List Fm) (vals : List Bool) : evalO fs vals = fs.any fun f => evalF f vals := by
  induction fs with
  | nil => rfl
  | cons f fs ih => rw [evalO, ih]; simp
theorem shapeL_get (fs : List Fm) (n : Int) (h : shapeL fs n = true) (i : Nat) (f : Fm) (hf : fs[i]? = some f) : shapeF f n = true := by
  induction fs generalizing i with
  | nil => simp at hf
  | cons g fs ih =>
    rw [shapeL, Bool.and_eq_true] at h
    cases i with
    | zero => simp at hf; subst hf; exact h.1
    | succ i => exact ih h.2 i (by simpa using hf)

set_option maxRecDepth 100000 in
set_option maxHeartbeats 4000000 in
theorem index69 (fs : List Fm) (ss : List Value) (A : Option Addr) (m c : Nat) (P : Fm → Bool) (p : Addr) (w : World) (hl : fs.length = m) (hs : ss.length = m) (hc : m ≤ maxLen) (hr : Rd w 3 A m (fCells fs ss))
    (hform : ∀ (i : Nat) (s : Value), ss[i]? = some s → ∃ A n c, s = .slice A n c)
    (hcall : ∀ (i : Nat) (f : Fm) (s : Value), fs[i]? = some f → ss[i]? = some s → ∀ W, Below w.heap.size w W → Calls Try.prog 69 #[.agg #[.int .i64 f.k, .int .i64 f.a, s], .pointer (some p)] W fun e W' => e = .returned (.bool (P f)) ∧ Below W.heap.size W W') :
    Calls Try.prog 77 #[.slice A m c, .func (Fn.func 69) #[] #[.pointer (some p)]] w fun e w' => ∃ z : Int, e = .returned (.int .i64 z) ∧ (0 ≤ z ↔ fs.any P = true) ∧ Below w.heap.size w w' := by
  unfold maxLen at hc
  have HR := Lib.hid hr
  have HF := Lib.hid hform
  have HCALL := Lib.hid hcall
  clear hr hform hcall
  go_enter Try.func77, Try.ntmps77
  go_wp2_with fail
  go_loopw [8] (fun x wr => ∃ (i : Nat), i ≤ m ∧ x = .int .i64 i ∧ fs.any P = (fs.drop i).any P ∧ Below w.heap.size w wr) (fun x _ => m - (intOf x).toNat)
  case atStart => exact ⟨0, Nat.zero_le _, rfl, by simp, Below.refl _ _⟩
  case round =>
    obtain ⟨i, hi, rfl, hany, hbk⟩ := hrel
    by_cases hlt : i < m
    · have hf : fs[i]? = some fs[i] := List.getElem?_eq_getElem (by omega)
      have hss : ss[i]? = some ss[i] := List.getElem?_eq_getElem (by omega)
      obtain ⟨b, off, rfl, x0, x1, x2, hbs⟩ := (HR.out.below hbk).f3 i hlt hf hss
      rw [drop_cons fs i _ hf, List.any_cons] at hany
      generalize fs[i] = f at *
      generalize ss[i] = s at *
      obtain ⟨A', n', c', rfl⟩ := HF.out i s hss
      have hcl := HCALL.out i f _ hf hss wr hbk
      generalize P f = u at *
      have HCL := Lib.hid hcl
      have HB := Lib.hid hbk
      have HANY := Lib.hid hany
      clear hcl hbk hf hss hany
      cases u with
      | true =>
        go_wp2_with (go_at_call 69; refine HCL.out.mono ?_; rintro e w3 ⟨rfl, hb3⟩)
        go_ret
        exact ⟨_, rfl, by rw [HANY.out]; simp, HB.out.trans (hb3.mono HB.out.size)⟩
      | false =>
        go_wp2_with (go_at_call 69; refine HCL.out.mono ?_; rintro e w3 ⟨rfl, hb3⟩)
        go_roundw
        case rel => exact ⟨i + 1, by omega, by go_num, by rw [HANY.out]; simp, HB.out.trans (hb3.mono HB.out.size)⟩
        case measure => simp [intOf]; omega
    · obtain rfl : i = m := by omega
      rw [List.drop_of_length_le (by omega)] at hany
      have HANY := Lib.hid hany
      clear hany
      go_wp2_with fail
      go_ret
      exact ⟨-1, rfl, by rw [HANY.out]; simp, hbk⟩
theorem contains69 (fs : List Fm) (ss : List Value) (A : Option Addr) (m c : Nat) (P : Fm → Bool) (p : Addr) (w : World) (hl : fs.length = m) (hs : ss.length = m) (hc : m ≤ maxLen) (hr : Rd w 3 A m (fCells fs ss))
    (hform : ∀ (i : Nat) (s : Value), ss[i]? = some s → ∃ A n c, s = .slice A n c)
    (hcall : ∀ (i : Nat) (f : Fm) (s : Value), fs[i]? = some f → ss[i]? = some s → ∀ W, Below w.heap.size w W → Calls Try.prog 69 #[.agg #[.int .i64 f.k, .int .i64 f.a, s], .pointer (some p)] W fun e W' => e = .returned (.bool (P f)) ∧ Below W.heap.size W W') :
    Calls Try.prog 68 #[.slice A m c, .func (Fn.func 69) #[] #[.pointer (some p)]] w fun e w' => e = .returned (.bool (fs.any P)) ∧ Below w.heap.size w w' := by
  have hi := index69 fs ss A m c P p w hl hs hc hr hform hcall
  clear hr hform hcall
  generalize hu : fs.any P = u at *
  go_enter Try.func68, Try.ntmps68
  go_wp2_with (go_at_call 77; refine hi.mono ?_; rintro e w1 ⟨z, rfl, hz, hb⟩)
  go_ret
  refine ⟨?_, hb⟩
  cases u with
  | true => simp [hz.2 rfl]
  | false =>
    have : ¬ 0 ≤ z := fun h => by have := hz.1 h; cases this
    simp [this]
set_option maxRecDepth 100000 in
set_option maxHeartbeats 4000000 in
theorem index70 (fs : List Fm) (ss : List Value) (A : Option Addr) (m c : Nat) (P : Fm → Bool) (p : Addr) (w : World) (hl : fs.length = m) (hs : ss.length = m) (hc : m ≤ maxLen) (hr : Rd w 3 A m (fCells fs ss))
    (hform : ∀ (i : Nat) (s : Value), ss[i]? = some s → ∃ A n c, s = .slice A n c)
    (hcall : ∀ (i : Nat) (f : Fm) (s : Value), fs[i]? = some f → ss[i]? = some s → ∀ W, Below w.heap.size w W → Calls Try.prog 70 #[.agg #[.int .i64 f.k, .int .i64 f.a, s], .pointer (some p)] W fun e W' => e = .returned (.bool (P f)) ∧ Below W.heap.size W W') :
    Calls Try.prog 77 #[.slice A m c, .func (Fn.func 70) #[] #[.pointer (some p)]] w fun e w' => ∃ z : Int, e = .returned (.int .i64 z) ∧ (0 ≤ z ↔ fs.any P = true) ∧ Below w.heap.size w w' := by
  unfold maxLen at hc
  have HR := Lib.hid hr
  have HF := Lib.hid hform
  have HCALL := Lib.hid hcall
  clear hr hform hcall
  go_enter Try.func77, Try.ntmps77
  go_wp2_with fail
  go_loopw [8] (fun x wr => ∃ (i : Nat), i ≤ m ∧ x = .int .i64 i ∧ fs.any P = (fs.drop i).any P ∧ Below w.heap.size w wr) (fun x _ => m - (intOf x).toNat)
  case atStart => exact ⟨0, Nat.zero_le _, rfl, by simp, Below.refl _ _⟩
  case round =>
    obtain ⟨i, hi, rfl, hany, hbk⟩ := hrel
    by_cases hlt : i < m
    · have hf : fs[i]? = some fs[i] := List.getElem?_eq_getElem (by omega)
      have hss : ss[i]? = some ss[i] := List.getElem?_eq_getElem (by omega)
      obtain ⟨b, off, rfl, x0, x1, x2, hbs⟩ := (HR.out.below hbk).f3 i hlt hf hss
      rw [drop_cons fs i _ hf, List.any_cons] at hany
      generalize fs[i] = f at *
      generalize ss[i] = s at *
      obtain ⟨A', n', c', rfl⟩ := HF.out i s hss
      have hcl := HCALL.out i f _ hf hss wr hbk
      generalize P f = u at *
      have HCL := Lib.hid hcl
      have HB := Lib.hid hbk
      have HANY := Lib.hid hany
      clear hcl hbk hf hss hany
      cases u with
      | true =>
        go_wp2_with (go_at_call 70; refine HCL.out.mono ?_; rintro e w3 ⟨rfl, hb3⟩)
        go_ret
        exact ⟨_, rfl, by rw [HANY.out]; simp, HB.out.trans (hb3.mono HB.out.size)⟩
      | false =>
        go_wp2_with (go_at_call 70; refine HCL.out.mono ?_; rintro e w3 ⟨rfl, hb3⟩)
        go_roundw
        case rel => exact ⟨i + 1, by omega, by go_num, by rw [HANY.out]; simp, HB.out.trans (hb3.mono HB.out.size)⟩
        case measure => simp [intOf]; omega
    · obtain rfl : i = m := by omega
      rw [List.drop_of_length_le (by omega)] at hany
      have HANY := Lib.hid hany
      clear hany
      go_wp2_with fail
      go_ret
      exact ⟨-1, rfl, by rw [HANY.out]; simp, hbk⟩
theorem contains70 (fs : List Fm) (ss : List Value) (A : Option Addr) (m c : Nat) (P : Fm → Bool) (p : Addr) (w : World) (hl : fs.length = m) (hs : ss.length = m) (hc : m ≤ maxLen) (hr : Rd w 3 A m (fCells fs ss))
    (hform : ∀ (i : Nat) (s : Value), ss[i]? = some s → ∃ A n c, s = .slice A n c)
    (hcall : ∀ (i : Nat) (f : Fm) (s : Value), fs[i]? = some f → ss[i]? = some s → ∀ W, Below w.heap.size w W → Calls Try.prog 70 #[.agg #[.int .i64 f.k, .int .i64 f.a, s], .pointer (some p)] W fun e W' => e = .returned (.bool (P f)) ∧ Below W.heap.size W W') :
    Calls Try.prog 68 #[.slice A m c, .func (Fn.func 70) #[] #[.pointer (some p)]] w fun e w' => e = .returned (.bool (fs.any P)) ∧ Below w.heap.size w w' := by
  have hi := index70 fs ss A m c P p w hl hs hc hr hform hcall
  clear hr hform hcall
  generalize hu : fs.any P = u at *
  go_enter Try.func68, Try.ntmps68
  go_wp2_with (go_at_call 77; refine hi.mono ?_; rintro e w1 ⟨z, rfl, hz, hb⟩)
  go_ret
  refine ⟨?_, hb⟩
  cases u with
  | true => simp [hz.2 rfl]
  | false =>
    have : ¬ 0 ≤ z := fun h => by have := hz.1 h; cases this
    simp [this]
end Go.Proofs.Ytdpnififbpoagaa
