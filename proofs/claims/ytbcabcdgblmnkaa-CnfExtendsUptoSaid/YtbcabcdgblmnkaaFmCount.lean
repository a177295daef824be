/- Contract of package logic: count. -/
import Derived.Test.YtbcabcdgblmnkaaFm
namespace Go.Proofs.Ytbcabcdgblmnkaa
open Go.RowKit
set_option linter.unusedVariables false
set_option linter.unusedSimpArgs false

mutual
theorem countF_le (f : Fm) (n d : Nat) (h : n ≤ 20000) : countF f n d ≤ 20001 := by
  cases f with
  | mk k a sub =>
    rw [countF]
    split
    · exact Nat.le_refl _
    · exact countL_le sub (n + 1) d (by omega)
theorem countL_le (fs : List Fm) (n d : Nat) (h : n ≤ 20001) : countL fs n d ≤ 20001 := by
  cases fs with
  | nil => rw [countL]; exact h
  | cons f fs =>
    rw [countL]
    split
    · exact h
    · exact countL_le fs _ d (countF_le f n (d + 1) (by omega))
end

theorem Rd.f3 {w : World} {A : Option Addr} {n : Nat} {fs : List Fm} {ss : List Value} (h : Rd w 3 A n (fCells fs ss)) (i : Nat) (hi : i < n) {f : Fm} {s : Value} (hf : fs[i]? = some f) (hs : ss[i]? = some s) :
    ∃ b off, A = some ⟨b, off, none⟩ ∧ w.cell? ⟨b, off + i * 3, none⟩ = some (.int .i64 f.k) ∧ w.cell? ⟨b, off + i * 3 + 1, none⟩ = some (.int .i64 f.a) ∧ w.cell? ⟨b, off + i * 3 + 2, none⟩ = some s ∧ b < w.heap.size := by
  obtain ⟨b, off, e, hc⟩ := h.2 (by omega)
  obtain ⟨h1, h2, h3⟩ := fCells_get fs ss i f s hf hs
  exact ⟨b, off, e, hc _ _ h1, hc _ _ h2, hc _ _ h3, World.block_lt_of_cell? w _ (hc _ _ h1)⟩
theorem drop_cons {α : Type} (l : List α) (i : Nat) (x : α) (h : l[i]? = some x) : l.drop i = x :: l.drop (i + 1) := by
  obtain ⟨hi, e⟩ := List.getElem?_eq_some_iff.1 h
  rw [List.drop_eq_getElem_cons hi, e]

set_option maxRecDepth 100000 in
set_option maxHeartbeats 4000000 in
theorem count_any {w0 : World} {fs : List Fm} {sv : Value} (h : FIn w0 fs sv) : ∀ (w : World) (k a : Int) (n d : Nat), Below w0.heap.size w0 w → n ≤ 20000 → d ≤ 201 →
    Calls Try.prog 85 #[.agg #[.int .i64 k, .int .i64 a, sv], .int .i64 (n : Int), .int .i64 (d : Int)] w fun e w' => e = .returned (.int .i64 (countF (.mk k a fs) n d : Nat)) ∧ Below w.heap.size w w' := by
  induction h with
  | mk A m c fs ss hl hs hnc hc hr hsub ih =>
    intro w k a n d hb hn hd
    rw [countF]
    by_cases h200 : 200 < d
    · rw [if_pos h200]
      have h200' : (200 : Int) < (d : Int) := by omega
      clear ih hr hsub
      go_enter Try.func85, Try.ntmps85
      go_wp2_with fail
      go_ret
      exact ⟨rfl, (Below.refl _ _).alloc (Nat.le_refl _) _⟩
    · rw [if_neg h200]
      have h200' : ¬ (200 : Int) < (d : Int) := by omega
      unfold maxLen at hc
      generalize hC : countL fs (n + 1) d = C
      have HIH := Lib.hid ih
      have HSUB := Lib.hid hsub
      have HR := Lib.hid hr
      have HC := Lib.hid hC
      have HB0 := Lib.hid hb
      clear ih hr hsub hC hb
      go_enter Try.func85, Try.ntmps85
      go_wp2_with fail
      go_loopw [1, 16] (fun y x wr => ∃ (i t : Nat), i ≤ m ∧ x = .int .i64 i ∧ y = .int .i64 t ∧ t ≤ 20001 ∧ countL (fs.drop i) t d = C ∧ Below w.heap.size w wr) (fun _ x _ => m - (intOf x).toNat)
      case atStart => exact ⟨0, n + 1, Nat.zero_le _, rfl, by go_num, by omega, by simpa using HC.out, (Below.refl _ _).alloc (Nat.le_refl _) _⟩
      case round =>
        obtain ⟨i, t, hi, rfl, rfl, ht, hC, hbk⟩ := hrel
        by_cases hlt : i < m
        · have hf : fs[i]? = some fs[i] := List.getElem?_eq_getElem (by omega)
          have hss : ss[i]? = some ss[i] := List.getElem?_eq_getElem (by omega)
          have h0r : Below w0.heap.size w0 wr := HB0.out.trans (hbk.mono HB0.out.size)
          obtain ⟨b, off, rfl, x0, x1, x2, hbs⟩ := (HR.out.below h0r).f3 i hlt hf hss
          rw [drop_cons fs i _ hf, countL] at hC
          generalize fs[i] = f at *
          generalize ss[i] = s at *
          obtain ⟨A', c', rfl, _, _⟩ := (HSUB.out i f s hf hss).form
          by_cases htt : 20000 < t
          · rw [if_pos htt] at hC
            have htt' : (20000 : Int) < (t : Int) := by omega
            subst hC
            have HB := Lib.hid hbk
            clear hbk hf hss HIH h0r
            go_wp2_with fail
            go_ret
            exact ⟨rfl, HB.out.alloc HB.out.size _⟩
          · rw [if_neg htt] at hC
            have htt' : ¬ (20000 : Int) < (t : Int) := by omega
            have hcall := HIH.out i f _ hf hss (wr.alloc (.cells #[.int .i64 f.k, .int .i64 f.a, .slice A' f.sub.length c'] 58)) f.k f.a t (d + 1) (h0r.alloc h0r.size _) (by omega) (by omega)
            rw [f.eta, show ((d + 1 : Nat) : Int) = (d : Int) + 1 by omega] at hcall
            have hle := countF_le f t (d + 1) (by omega)
            generalize countF f t (d + 1) = u at *
            have HCALL := Lib.hid hcall
            have HB := Lib.hid hbk
            have HCC := Lib.hid hC
            clear hcall hbk hC hf hss h0r
            go_wp2_with (go_at_call 85; refine HCALL.out.mono ?_; rintro e w3 ⟨rfl, hb3⟩)
            go_roundw
            case rel => exact ⟨i + 1, u, by omega, by go_num, rfl, hle, HCC.out, (HB.out.alloc HB.out.size _).trans (hb3.mono (by have := HB.out.size; simp; omega))⟩
            case measure => simp [intOf]; omega
        · obtain rfl : i = m := by omega
          rw [List.drop_of_length_le (by omega), countL] at hC
          subst hC
          go_wp2_with fail
          go_ret
          exact ⟨rfl, hbk⟩
end Go.Proofs.Ytbcabcdgblmnkaa

namespace Go.Proofs.Ytbcabcdgblmnkaa
open Go.RowKit
set_option linter.unusedVariables false
set_option linter.unusedSimpArgs false

mutual
/-- as many parts as its kind wants, and an atom that is one. -/
def shapeF : Fm → Int → Bool
  | .mk k a sub, n =>
    if k = 1 then decide (0 ≤ a) && (decide (a < n) && decide (sub.length = 0)) else if k = 5 ∨ k = 6 then decide (sub.length = 0) else if k = 2 then decide (sub.length = 1) && shapeL sub n else if k = 3 ∨ k = 4 then shapeL sub n else false
def shapeL : List Fm → Int → Bool
  | [], _ => true
  | s :: ss, n => shapeF s n && shapeL ss n
end

set_option maxRecDepth 100000 in
set_option maxHeartbeats 4000000 in
theorem shaped_any {w0 : World} {fs : List Fm} {sv : Value} (h : FIn w0 fs sv) : ∀ (w : World) (k a n : Int), Below w0.heap.size w0 w →
    Calls Try.prog 86 #[.agg #[.int .i64 k, .int .i64 a, sv], .int .i64 n] w fun e w' => e = .returned (.bool (shapeF (.mk k a fs) n)) ∧ Below w.heap.size w w' := by
  induction h with
  | mk A m c fs ss hl hs hnc hc hr hsub ih =>
    intro w k a n hb
    rw [shapeF, hl]
    unfold maxLen at hc
    have HIH := Lib.hid ih
    have HSUB := Lib.hid hsub
    have HR := Lib.hid hr
    have HB0 := Lib.hid hb
    clear ih hr hsub hb
    by_cases k1 : k = 1
    · subst k1
      rw [if_pos rfl]
      by_cases ha : 0 ≤ a
      · by_cases han : a < n
        · by_cases hm : m = 0
          · subst hm
            go_enter Try.func86, Try.ntmps86
            go_wp2_with fail
            go_ret
            exact ⟨by simp [ha, han] <;> omega, (Below.refl _ _).alloc (Nat.le_refl _) _⟩
          · have hm' : ¬ (m : Int) = 0 := by omega
            have hm'' : ((m : Int) == 0) = false := by simpa using hm'
            go_enter Try.func86, Try.ntmps86
            go_wp2_with fail
            go_ret
            exact ⟨by simp [ha, han, hm] <;> omega, (Below.refl _ _).alloc (Nat.le_refl _) _⟩
        ·
          go_enter Try.func86, Try.ntmps86
          go_wp2_with fail
          go_ret
          exact ⟨by simp [ha, han] <;> omega, (Below.refl _ _).alloc (Nat.le_refl _) _⟩
      ·
        go_enter Try.func86, Try.ntmps86
        go_wp2_with fail
        go_ret
        exact ⟨by simp [ha] <;> omega, (Below.refl _ _).alloc (Nat.le_refl _) _⟩
    rw [if_neg k1]
    by_cases k5 : k = 5
    · subst k5
      rw [if_pos (.inl rfl)]
      by_cases hm : m = 0
      · subst hm
        go_enter Try.func86, Try.ntmps86
        go_wp2_with fail
        go_ret
        exact ⟨by simp [Nat.zero_add] <;> omega, (Below.refl _ _).alloc (Nat.le_refl _) _⟩
      · have hm' : ¬ (m : Int) = 0 := by omega
        have hm'' : ((m : Int) == 0) = false := by simpa using hm'
        go_enter Try.func86, Try.ntmps86
        go_wp2_with fail
        go_ret
        exact ⟨by simp [hm] <;> omega, (Below.refl _ _).alloc (Nat.le_refl _) _⟩
    by_cases k6 : k = 6
    · subst k6
      rw [if_pos (.inr rfl)]
      by_cases hm : m = 0
      · subst hm
        go_enter Try.func86, Try.ntmps86
        go_wp2_with fail
        go_ret
        exact ⟨by simp [Nat.zero_add] <;> omega, (Below.refl _ _).alloc (Nat.le_refl _) _⟩
      · have hm' : ¬ (m : Int) = 0 := by omega
        have hm'' : ((m : Int) == 0) = false := by simpa using hm'
        go_enter Try.func86, Try.ntmps86
        go_wp2_with fail
        go_ret
        exact ⟨by simp [hm] <;> omega, (Below.refl _ _).alloc (Nat.le_refl _) _⟩
    rw [if_neg (by omega)]
    by_cases k2 : k = 2
    · subst k2
      rw [if_pos rfl]
      by_cases hm : m = 1
      · rw [decide_eq_true hm, Bool.true_and]
        have hb1 : ((m : Int) != 1) = false := by subst hm; rfl
        have hb2 : ((m : Int) == 1) = true := by subst hm; rfl
        clear hm
        generalize hC : shapeL fs n = C
        have HC := Lib.hid hC
        clear hC
        go_enter Try.func86, Try.ntmps86
        go_wp2_with fail
        go_loopw [39] (fun x wr => ∃ (i : Nat), i ≤ m ∧ x = .int .i64 i ∧ shapeL (fs.drop i) n = C ∧ Below w.heap.size w wr) (fun x _ => m - (intOf x).toNat)
        case atStart => exact ⟨0, Nat.zero_le _, rfl, by simpa using HC.out, (Below.refl _ _).alloc (Nat.le_refl _) _⟩
        case round =>
          obtain ⟨i, hi, rfl, hC, hbk⟩ := hrel
          by_cases hlt : i < m
          · have hf : fs[i]? = some fs[i] := List.getElem?_eq_getElem (by omega)
            have hss : ss[i]? = some ss[i] := List.getElem?_eq_getElem (by omega)
            have h0r : Below w0.heap.size w0 wr := HB0.out.trans (hbk.mono HB0.out.size)
            obtain ⟨b, off, rfl, x0, x1, x2, hbs⟩ := (HR.out.below h0r).f3 i hlt hf hss
            rw [drop_cons fs i _ hf, shapeL] at hC
            generalize fs[i] = f at *
            generalize ss[i] = s at *
            obtain ⟨A', c', rfl, _, _⟩ := (HSUB.out i f s hf hss).form
            have hcall := HIH.out i f _ hf hss (wr.alloc (.cells #[.int .i64 f.k, .int .i64 f.a, .slice A' f.sub.length c'] 58)) f.k f.a n (h0r.alloc h0r.size _)
            rw [f.eta] at hcall
            generalize shapeF f n = u at *
            have HCALL := Lib.hid hcall
            have HB := Lib.hid hbk
            clear hcall hbk hf hss h0r
            cases u with
            | true =>
              rw [Bool.true_and] at hC
              have HCC := Lib.hid hC
              clear hC
              go_wp2_with (go_at_call 86; refine HCALL.out.mono ?_; rintro e w3 ⟨rfl, hb3⟩)
              go_roundw
              case rel => exact ⟨i + 1, by omega, by go_num, HCC.out, (HB.out.alloc HB.out.size _).trans (hb3.mono (by have := HB.out.size; simp; omega))⟩
              case measure => simp [intOf]; omega
            | false =>
              rw [Bool.false_and] at hC
              subst hC
              go_wp2_with (go_at_call 86; refine HCALL.out.mono ?_; rintro e w3 ⟨rfl, hb3⟩)
              go_ret
              exact ⟨rfl, (HB.out.alloc HB.out.size _).trans (hb3.mono (by have := HB.out.size; simp; omega))⟩
          · obtain rfl : i = m := by omega
            rw [List.drop_of_length_le (by omega), shapeL] at hC
            subst hC
            go_wp2_with fail
            go_ret
            exact ⟨rfl, hbk⟩
      · rw [decide_eq_false hm, Bool.false_and]
        have hm' : ¬ (m : Int) = 1 := by omega
        have hm'' : ((m : Int) == 1) = false := by simpa using hm'
        go_enter Try.func86, Try.ntmps86
        go_wp2_with fail
        go_ret
        exact ⟨by simp [hm] <;> omega, (Below.refl _ _).alloc (Nat.le_refl _) _⟩
    rw [if_neg k2]
    by_cases k3 : k = 3
    · subst k3
      rw [if_pos (.inl rfl)]
      generalize hC : shapeL fs n = C
      have HC := Lib.hid hC
      clear hC
      go_enter Try.func86, Try.ntmps86
      go_wp2_with fail
      go_loopw [39] (fun x wr => ∃ (i : Nat), i ≤ m ∧ x = .int .i64 i ∧ shapeL (fs.drop i) n = C ∧ Below w.heap.size w wr) (fun x _ => m - (intOf x).toNat)
      case atStart => exact ⟨0, Nat.zero_le _, rfl, by simpa using HC.out, (Below.refl _ _).alloc (Nat.le_refl _) _⟩
      case round =>
        obtain ⟨i, hi, rfl, hC, hbk⟩ := hrel
        by_cases hlt : i < m
        · have hf : fs[i]? = some fs[i] := List.getElem?_eq_getElem (by omega)
          have hss : ss[i]? = some ss[i] := List.getElem?_eq_getElem (by omega)
          have h0r : Below w0.heap.size w0 wr := HB0.out.trans (hbk.mono HB0.out.size)
          obtain ⟨b, off, rfl, x0, x1, x2, hbs⟩ := (HR.out.below h0r).f3 i hlt hf hss
          rw [drop_cons fs i _ hf, shapeL] at hC
          generalize fs[i] = f at *
          generalize ss[i] = s at *
          obtain ⟨A', c', rfl, _, _⟩ := (HSUB.out i f s hf hss).form
          have hcall := HIH.out i f _ hf hss (wr.alloc (.cells #[.int .i64 f.k, .int .i64 f.a, .slice A' f.sub.length c'] 58)) f.k f.a n (h0r.alloc h0r.size _)
          rw [f.eta] at hcall
          generalize shapeF f n = u at *
          have HCALL := Lib.hid hcall
          have HB := Lib.hid hbk
          clear hcall hbk hf hss h0r
          cases u with
          | true =>
            rw [Bool.true_and] at hC
            have HCC := Lib.hid hC
            clear hC
            go_wp2_with (go_at_call 86; refine HCALL.out.mono ?_; rintro e w3 ⟨rfl, hb3⟩)
            go_roundw
            case rel => exact ⟨i + 1, by omega, by go_num, HCC.out, (HB.out.alloc HB.out.size _).trans (hb3.mono (by have := HB.out.size; simp; omega))⟩
            case measure => simp [intOf]; omega
          | false =>
            rw [Bool.false_and] at hC
            subst hC
            go_wp2_with (go_at_call 86; refine HCALL.out.mono ?_; rintro e w3 ⟨rfl, hb3⟩)
            go_ret
            exact ⟨rfl, (HB.out.alloc HB.out.size _).trans (hb3.mono (by have := HB.out.size; simp; omega))⟩
        · obtain rfl : i = m := by omega
          rw [List.drop_of_length_le (by omega), shapeL] at hC
          subst hC
          go_wp2_with fail
          go_ret
          exact ⟨rfl, hbk⟩
    by_cases k4 : k = 4
    · subst k4
      rw [if_pos (.inr rfl)]
      generalize hC : shapeL fs n = C
      have HC := Lib.hid hC
      clear hC
      go_enter Try.func86, Try.ntmps86
      go_wp2_with fail
      go_loopw [39] (fun x wr => ∃ (i : Nat), i ≤ m ∧ x = .int .i64 i ∧ shapeL (fs.drop i) n = C ∧ Below w.heap.size w wr) (fun x _ => m - (intOf x).toNat)
      case atStart => exact ⟨0, Nat.zero_le _, rfl, by simpa using HC.out, (Below.refl _ _).alloc (Nat.le_refl _) _⟩
      case round =>
        obtain ⟨i, hi, rfl, hC, hbk⟩ := hrel
        by_cases hlt : i < m
        · have hf : fs[i]? = some fs[i] := List.getElem?_eq_getElem (by omega)
          have hss : ss[i]? = some ss[i] := List.getElem?_eq_getElem (by omega)
          have h0r : Below w0.heap.size w0 wr := HB0.out.trans (hbk.mono HB0.out.size)
          obtain ⟨b, off, rfl, x0, x1, x2, hbs⟩ := (HR.out.below h0r).f3 i hlt hf hss
          rw [drop_cons fs i _ hf, shapeL] at hC
          generalize fs[i] = f at *
          generalize ss[i] = s at *
          obtain ⟨A', c', rfl, _, _⟩ := (HSUB.out i f s hf hss).form
          have hcall := HIH.out i f _ hf hss (wr.alloc (.cells #[.int .i64 f.k, .int .i64 f.a, .slice A' f.sub.length c'] 58)) f.k f.a n (h0r.alloc h0r.size _)
          rw [f.eta] at hcall
          generalize shapeF f n = u at *
          have HCALL := Lib.hid hcall
          have HB := Lib.hid hbk
          clear hcall hbk hf hss h0r
          cases u with
          | true =>
            rw [Bool.true_and] at hC
            have HCC := Lib.hid hC
            clear hC
            go_wp2_with (go_at_call 86; refine HCALL.out.mono ?_; rintro e w3 ⟨rfl, hb3⟩)
            go_roundw
            case rel => exact ⟨i + 1, by omega, by go_num, HCC.out, (HB.out.alloc HB.out.size _).trans (hb3.mono (by have := HB.out.size; simp; omega))⟩
            case measure => simp [intOf]; omega
          | false =>
            rw [Bool.false_and] at hC
            subst hC
            go_wp2_with (go_at_call 86; refine HCALL.out.mono ?_; rintro e w3 ⟨rfl, hb3⟩)
            go_ret
            exact ⟨rfl, (HB.out.alloc HB.out.size _).trans (hb3.mono (by have := HB.out.size; simp; omega))⟩
        · obtain rfl : i = m := by omega
          rw [List.drop_of_length_le (by omega), shapeL] at hC
          subst hC
          go_wp2_with fail
          go_ret
          exact ⟨rfl, hbk⟩
    · rw [if_neg (by omega)]
      go_enter Try.func86, Try.ntmps86
      go_wp2_with fail
      go_ret
      exact ⟨by simp [k1] <;> omega, (Below.refl _ _).alloc (Nat.le_refl _) _⟩
end Go.Proofs.Ytbcabcdgblmnkaa

namespace Go.Proofs.Ytbcabcdgblmnkaa
open Go.RowKit
set_option linter.unusedVariables false
set_option linter.unusedSimpArgs false

def checkF (f : Fm) (n : Int) : Int := if 20000 < countF f 0 1 then 2 else if shapeF f n = true then 0 else 4
theorem check_any {w0 : World} {fs : List Fm} {sv : Value} (h : FIn w0 fs sv) (w : World) (k a n : Int) (hb : Below w0.heap.size w0 w) :
    Calls Try.prog 68 #[.agg #[.int .i64 k, .int .i64 a, sv], .int .i64 n] w fun e w' => e = .returned (.int .i64 (checkF (.mk k a fs) n)) ∧ Below w.heap.size w w' := by
  have hb1 : Below w.heap.size w (w.alloc (.cells #[.int .i64 k, .int .i64 a, sv] 58)) := (Below.refl _ _).alloc (Nat.le_refl _) _
  have h1 := count_any h (w.alloc (.cells #[.int .i64 k, .int .i64 a, sv] 58)) k a 0 1 (hb.trans (hb1.mono hb.size)) (by omega) (by omega)
  have h2 := fun W hW => shaped_any h W k a n hW
  unfold checkF
  obtain ⟨A, c, rfl, _, _⟩ := h.form
  generalize countF (.mk k a fs) 0 1 = C at *
  generalize shapeF (.mk k a fs) n = S at *
  have H2 := Lib.hid h2
  have HB := Lib.hid hb
  have HB1 := Lib.hid hb1
  clear h2 hb hb1 h
  by_cases hC : 20000 < C
  · rw [if_pos hC]
    have hC' : (20000 : Int) < (C : Int) := by omega
    go_enter Try.func68, Try.ntmps68
    go_wp2_with (go_at_call 85; refine h1.mono ?_; rintro e w1 ⟨rfl, hb2⟩)
    go_ret
    exact ⟨rfl, HB1.out.trans (hb2.mono HB1.out.size)⟩
  · rw [if_neg hC]
    have hC' : ¬ (20000 : Int) < (C : Int) := by omega
    cases S with
    | true =>
      rw [if_pos rfl]
      go_enter Try.func68, Try.ntmps68
      go_wp2_with (first | (go_at_call 85; refine h1.mono ?_; rintro e w1 ⟨rfl, hb2⟩; have c0 := (hb2.cell (p := ⟨w.heap.size, 0, none⟩) (by simp)).trans (cell_of_blk (heap_alloc_new w _) 0); have c1 := (hb2.cell (p := ⟨w.heap.size, 1, none⟩) (by simp)).trans (cell_of_blk (heap_alloc_new w _) 1); have c2 := (hb2.cell (p := ⟨w.heap.size, 2, none⟩) (by simp)).trans (cell_of_blk (heap_alloc_new w _) 2); simp at c0 c1 c2; have HB2 := Lib.hid (HB1.out.trans (hb2.mono HB1.out.size)); clear hb2) | (go_at_call 86; refine (H2.out _ (HB.out.trans (HB2.out.mono HB.out.size))).mono ?_; rintro e w2 ⟨rfl, hb3⟩))
      go_ret
      exact ⟨rfl, HB2.out.trans (hb3.mono HB2.out.size)⟩
    | false =>
      rw [if_neg (by simp)]
      go_enter Try.func68, Try.ntmps68
      go_wp2_with (first | (go_at_call 85; refine h1.mono ?_; rintro e w1 ⟨rfl, hb2⟩; have c0 := (hb2.cell (p := ⟨w.heap.size, 0, none⟩) (by simp)).trans (cell_of_blk (heap_alloc_new w _) 0); have c1 := (hb2.cell (p := ⟨w.heap.size, 1, none⟩) (by simp)).trans (cell_of_blk (heap_alloc_new w _) 1); have c2 := (hb2.cell (p := ⟨w.heap.size, 2, none⟩) (by simp)).trans (cell_of_blk (heap_alloc_new w _) 2); simp at c0 c1 c2; have HB2 := Lib.hid (HB1.out.trans (hb2.mono HB1.out.size)); clear hb2) | (go_at_call 86; refine (H2.out _ (HB.out.trans (HB2.out.mono HB.out.size))).mono ?_; rintro e w2 ⟨rfl, hb3⟩))
      go_ret
      exact ⟨rfl, HB2.out.trans (hb3.mono HB2.out.size)⟩
end Go.Proofs.Ytbcabcdgblmnkaa
