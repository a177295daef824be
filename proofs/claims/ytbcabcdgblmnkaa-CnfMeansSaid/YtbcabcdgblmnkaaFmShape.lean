/- Contract of package logic: shaped. -/
import Derived.Test.YtbcabcdgblmnkaaFmCount
namespace Go.Proofs.Ytbcabcdgblmnkaa
open Go.RowKit
set_option linter.unusedVariables false
set_option linter.unusedSimpArgs false

mutual
/-- as many parts as its kind wants, and an atom that is one. -/
def shapeF : Fm → Int → Bool
  | .mk k a sub, n =>
    if k = 1 then decide (0 ≤ a) && (decide (a < n) && decide (sub.length = 0)) else if k = 5 ∨ k = 6 then decide (sub.length = 0) else if k = 2 then decide (sub.length = 1) && shapeL sub n else if k = 3 ∨ k = 4 then shapeL sub n else false
def shapeL : List Fm → Int → Bool
  | [], _ => true
  | s :: ss, n => shapeF s n && shapeL ss n
end

set_option maxRecDepth 100000 in
set_option maxHeartbeats 4000000 in
theorem shaped_any {w0 : World} {fs : List Fm} {sv : Value} (h : FIn w0 fs sv) : ∀ (w : World) (k a n : Int), Below w0.heap.size w0 w →
    Calls Try.prog 86 #[.agg #[.int .i64 k, .int .i64 a, sv], .int .i64 n] w fun e w' => e = .returned (.bool (shapeF (.mk k a fs) n)) ∧ Below w.heap.size w w' := by
  induction h with
  | mk A m c fs ss hl hs hnc hc hr hsub ih =>
    intro w k a n hb
    rw [shapeF, hl]
    unfold maxLen at hc
    have HIH := Lib.hid ih
    have HSUB := Lib.hid hsub
    have HR := Lib.hid hr
    have HB0 := Lib.hid hb
    clear ih hr hsub hb
    by_cases k1 : k = 1
    · subst k1
      rw [if_pos rfl]
      by_cases ha : 0 ≤ a
      · by_cases han : a < n
        · by_cases hm : m = 0
          · subst hm
            go_enter Try.func86, Try.ntmps86
            go_wp2_with fail
            go_ret
            exact ⟨by simp [ha, han] <;> omega, (Below.refl _ _).alloc (Nat.le_refl _) _⟩
          · have hm' : ¬ (m : Int) = 0 := by omega
            have hm'' : ((m : Int) == 0) = false := by simpa using hm'
            go_enter Try.func86, Try.ntmps86
            go_wp2_with fail
            go_ret
            exact ⟨by simp [ha, han, hm] <;> omega, (Below.refl _ _).alloc (Nat.le_refl _) _⟩
        ·
          go_enter Try.func86, Try.ntmps86
          go_wp2_with fail
          go_ret
          exact ⟨by simp [ha, han] <;> omega, (Below.refl _ _).alloc (Nat.le_refl _) _⟩
      ·
        go_enter Try.func86, Try.ntmps86
        go_wp2_with fail
        go_ret
        exact ⟨by simp [ha] <;> omega, (Below.refl _ _).alloc (Nat.le_refl _) _⟩
    rw [if_neg k1]
    by_cases k5 : k = 5
    · subst k5
      rw [if_pos (.inl rfl)]
      by_cases hm : m = 0
      · subst hm
        go_enter Try.func86, Try.ntmps86
        go_wp2_with fail
        go_ret
        exact ⟨by simp [Nat.zero_add] <;> omega, (Below.refl _ _).alloc (Nat.le_refl _) _⟩
      · have hm' : ¬ (m : Int) = 0 := by omega
        have hm'' : ((m : Int) == 0) = false := by simpa using hm'
        go_enter Try.func86, Try.ntmps86
        go_wp2_with fail
        go_ret
        exact ⟨by simp [hm] <;> omega, (Below.refl _ _).alloc (Nat.le_refl _) _⟩
    by_cases k6 : k = 6
    · subst k6
      rw [if_pos (.inr rfl)]
      by_cases hm : m = 0
      · subst hm
        go_enter Try.func86, Try.ntmps86
        go_wp2_with fail
        go_ret
        exact ⟨by simp [Nat.zero_add] <;> omega, (Below.refl _ _).alloc (Nat.le_refl _) _⟩
      · have hm' : ¬ (m : Int) = 0 := by omega
        have hm'' : ((m : Int) == 0) = false := by simpa using hm'
        go_enter Try.func86, Try.ntmps86
        go_wp2_with fail
        go_ret
        exact ⟨by simp [hm] <;> omega, (Below.refl _ _).alloc (Nat.le_refl _) _⟩
    rw [if_neg (by omega)]
    by_cases k2 : k = 2
    · subst k2
      rw [if_pos rfl]
      by_cases hm : m = 1
      · rw [decide_eq_true hm, Bool.true_and]
        have hb1 : ((m : Int) != 1) = false := by subst hm; rfl
        have hb2 : ((m : Int) == 1) = true := by subst hm; rfl
        clear hm
        generalize hC : shapeL fs n = C
        have HC := Lib.hid hC
        clear hC
        go_enter Try.func86, Try.ntmps86
        go_wp2_with fail
        go_loopw [39] (fun x wr => ∃ (i : Nat), i ≤ m ∧ x = .int .i64 i ∧ shapeL (fs.drop i) n = C ∧ Below w.heap.size w wr) (fun x _ => m - (intOf x).toNat)
        case atStart => exact ⟨0, Nat.zero_le _, rfl, by simpa using HC.out, (Below.refl _ _).alloc (Nat.le_refl _) _⟩
        case round =>
          obtain ⟨i, hi, rfl, hC, hbk⟩ := hrel
          by_cases hlt : i < m
          · have hf : fs[i]? = some fs[i] := List.getElem?_eq_getElem (by omega)
            have hss : ss[i]? = some ss[i] := List.getElem?_eq_getElem (by omega)
            have h0r : Below w0.heap.size w0 wr := HB0.out.trans (hbk.mono HB0.out.size)
            obtain ⟨b, off, rfl, x0, x1, x2, hbs⟩ := (HR.out.below h0r).f3 i hlt hf hss
            rw [drop_cons fs i _ hf, shapeL] at hC
            generalize fs[i] = f at *
            generalize ss[i] = s at *
            obtain ⟨A', c', rfl, _, _⟩ := (HSUB.out i f s hf hss).form
            have hcall := HIH.out i f _ hf hss (wr.alloc (.cells #[.int .i64 f.k, .int .i64 f.a, .slice A' f.sub.length c'] 58)) f.k f.a n (h0r.alloc h0r.size _)
            rw [f.eta] at hcall
            generalize shapeF f n = u at *
            have HCALL := Lib.hid hcall
            have HB := Lib.hid hbk
            clear hcall hbk hf hss h0r
            cases u with
            | true =>
              rw [Bool.true_and] at hC
              have HCC := Lib.hid hC
              clear hC
              go_wp2_with (go_at_call 86; refine HCALL.out.mono ?_; rintro e w3 ⟨rfl, hb3⟩)
              go_roundw
              case rel => exact ⟨i + 1, by omega, by go_num, HCC.out, (HB.out.alloc HB.out.size _).trans (hb3.mono (by have := HB.out.size; simp; omega))⟩
              case measure => simp [intOf]; omega
            | false =>
              rw [Bool.false_and] at hC
              subst hC
              go_wp2_with (go_at_call 86; refine HCALL.out.mono ?_; rintro e w3 ⟨rfl, hb3⟩)
              go_ret
              exact ⟨rfl, (HB.out.alloc HB.out.size _).trans (hb3.mono (by have := HB.out.size; simp; omega))⟩
          · obtain rfl : i = m := by omega
            rw [List.drop_of_length_le (by omega), shapeL] at hC
            subst hC
            go_wp2_with fail
            go_ret
            exact ⟨rfl, hbk⟩
      · rw [decide_eq_false hm, Bool.false_and]
        have hm' : ¬ (m : Int) = 1 := by omega
        have hm'' : ((m : Int) == 1) = false := by simpa using hm'
        go_enter Try.func86, Try.ntmps86
        go_wp2_with fail
        go_ret
        exact ⟨by simp [hm] <;> omega, (Below.refl _ _).alloc (Nat.le_refl _) _⟩
    rw [if_neg k2]
    by_cases k3 : k = 3
    · subst k3
      rw [if_pos (.inl rfl)]
      generalize hC : shapeL fs n = C
      have HC := Lib.hid hC
      clear hC
      go_enter Try.func86, Try.ntmps86
      go_wp2_with fail
      go_loopw [39] (fun x wr => ∃ (i : Nat), i ≤ m ∧ x = .int .i64 i ∧ shapeL (fs.drop i) n = C ∧ Below w.heap.size w wr) (fun x _ => m - (intOf x).toNat)
      case atStart => exact ⟨0, Nat.zero_le _, rfl, by simpa using HC.out, (Below.refl _ _).alloc (Nat.le_refl _) _⟩
      case round =>
        obtain ⟨i, hi, rfl, hC, hbk⟩ := hrel
        by_cases hlt : i < m
        · have hf : fs[i]? = some fs[i] := List.getElem?_eq_getElem (by omega)
          have hss : ss[i]? = some ss[i] := List.getElem?_eq_getElem (by omega)
          have h0r : Below w0.heap.size w0 wr := HB0.out.trans (hbk.mono HB0.out.size)
          obtain ⟨b, off, rfl, x0, x1, x2, hbs⟩ := (HR.out.below h0r).f3 i hlt hf hss
          rw [drop_cons fs i _ hf, shapeL] at hC
          generalize fs[i] = f at *
          generalize ss[i] = s at *
          obtain ⟨A', c', rfl, _, _⟩ := (HSUB.out i f s hf hss).form
          have hcall := HIH.out i f _ hf hss (wr.alloc (.cells #[.int .i64 f.k, .int .i64 f.a, .slice A' f.sub.length c'] 58)) f.k f.a n (h0r.alloc h0r.size _)
          rw [f.eta] at hcall
          generalize shapeF f n = u at *
          have HCALL := Lib.hid hcall
          have HB := Lib.hid hbk
          clear hcall hbk hf hss h0r
          cases u with
          | true =>
            rw [Bool.true_and] at hC
            have HCC := Lib.hid hC
            clear hC
            go_wp2_with (go_at_call 86; refine HCALL.out.mono ?_; rintro e w3 ⟨rfl, hb3⟩)
            go_roundw
            case rel => exact ⟨i + 1, by omega, by go_num, HCC.out, (HB.out.alloc HB.out.size _).trans (hb3.mono (by have := HB.out.size; simp; omega))⟩
            case measure => simp [intOf]; omega
          | false =>
            rw [Bool.false_and] at hC
            subst hC
            go_wp2_with (go_at_call 86; refine HCALL.out.mono ?_; rintro e w3 ⟨rfl, hb3⟩)
            go_ret
            exact ⟨rfl, (HB.out.alloc HB.out.size _).trans (hb3.mono (by have := HB.out.size; simp; omega))⟩
        · obtain rfl : i = m := by omega
          rw [List.drop_of_length_le (by omega), shapeL] at hC
          subst hC
          go_wp2_with fail
          go_ret
          exact ⟨rfl, hbk⟩
    by_cases k4 : k = 4
    · subst k4
      rw [if_pos (.inr rfl)]
      generalize hC : shapeL fs n = C
      have HC := Lib.hid hC
      clear hC
      go_enter Try.func86, Try.ntmps86
      go_wp2_with fail
      go_loopw [39] (fun x wr => ∃ (i : Nat), i ≤ m ∧ x = .int .i64 i ∧ shapeL (fs.drop i) n = C ∧ Below w.heap.size w wr) (fun x _ => m - (intOf x).toNat)
      case atStart => exact ⟨0, Nat.zero_le _, rfl, by simpa using HC.out, (Below.refl _ _).alloc (Nat.le_refl _) _⟩
      case round =>
        obtain ⟨i, hi, rfl, hC, hbk⟩ := hrel
        by_cases hlt : i < m
        · have hf : fs[i]? = some fs[i] := List.getElem?_eq_getElem (by omega)
          have hss : ss[i]? = some ss[i] := List.getElem?_eq_getElem (by omega)
          have h0r : Below w0.heap.size w0 wr := HB0.out.trans (hbk.mono HB0.out.size)
          obtain ⟨b, off, rfl, x0, x1, x2, hbs⟩ := (HR.out.below h0r).f3 i hlt hf hss
          rw [drop_cons fs i _ hf, shapeL] at hC
          generalize fs[i] = f at *
          generalize ss[i] = s at *
          obtain ⟨A', c', rfl, _, _⟩ := (HSUB.out i f s hf hss).form
          have hcall := HIH.out i f _ hf hss (wr.alloc (.cells #[.int .i64 f.k, .int .i64 f.a, .slice A' f.sub.length c'] 58)) f.k f.a n (h0r.alloc h0r.size _)
          rw [f.eta] at hcall
          generalize shapeF f n = u at *
          have HCALL := Lib.hid hcall
          have HB := Lib.hid hbk
          clear hcall hbk hf hss h0r
          cases u with
          | true =>
            rw [Bool.true_and] at hC
            have HCC := Lib.hid hC
            clear hC
            go_wp2_with (go_at_call 86; refine HCALL.out.mono ?_; rintro e w3 ⟨rfl, hb3⟩)
            go_roundw
            case rel => exact ⟨i + 1, by omega, by go_num, HCC.out, (HB.out.alloc HB.out.size _).trans (hb3.mono (by have := HB.out.size; simp; omega))⟩
            case measure => simp [intOf]; omega
          | false =>
            rw [Bool.false_and] at hC
            subst hC
            go_wp2_with (go_at_call 86; refine HCALL.out.mono ?_; rintro e w3 ⟨rfl, hb3⟩)
            go_ret
            exact ⟨rfl, (HB.out.alloc HB.out.size _).trans (hb3.mono (by have := HB.out.size; simp; omega))⟩
        · obtain rfl : i = m := by omega
          rw [List.drop_of_length_le (by omega), shapeL] at hC
          subst hC
          go_wp2_with fail
          go_ret
          exact ⟨rfl, hbk⟩
    · rw [if_neg (by omega)]
      go_enter Try.func86, Try.ntmps86
      go_wp2_with fail
      go_ret
      exact ⟨by simp [k1] <;> omega, (Below.refl _ _).alloc (Nat.le_refl _) _⟩
end Go.Proofs.Ytbcabcdgblmnkaa
