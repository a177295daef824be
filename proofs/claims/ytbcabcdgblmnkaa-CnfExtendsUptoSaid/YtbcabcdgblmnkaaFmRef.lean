/- Contracts of the reference of formulas: Nodes, over, Form, Check. -/
import Derived.Test.YtbcabcdgblmnkaaFmTold
namespace Go.Proofs.Ytbcabcdgblmnkaa
open Go.RowKit
set_option linter.unusedVariables false
set_option linter.unusedSimpArgs false

theorem nodes_snoc (fs : List Fm) (i : Nat) (f : Fm) (hf : fs[i]? = some f) : sizeL (fs.take (i + 1)) = sizeL (fs.take i) + sizeF f := by
  rw [List.take_add_one, hf, sizeL_append]
  simp [sizeL]
set_option maxRecDepth 100000 in
set_option maxHeartbeats 4000000 in
theorem nodes_any {w0 : World} {fs : List Fm} {sv : Value} (h : FIn w0 fs sv) : ∀ (w : World) (k a : Int) (most : Nat), Below w0.heap.size w0 w → most ≤ 20000 →
    Calls Try.prog 58 #[.agg #[.int .i64 k, .int .i64 a, sv], .int .i64 (most : Int)] w fun e w' => e = .returned (.int .i64 (nodesF (.mk k a fs) most : Nat)) ∧ Below w.heap.size w w' := by
  induction h with
  | mk A m c fs ss hl hs hnc hc hr hsub ih =>
    intro w k a most hb hmost
    unfold maxLen at hc
    have hN : nodesF (.mk k a fs) most = min (sizeL fs + 1) (most + 1) := by unfold nodesF; rw [sizeF]
    generalize nodesF (.mk k a fs) most = N at *
    have hfm : ∀ (i : Nat) (s : Value), ss[i]? = some s → ∃ A n c, s = Value.slice A n c := fun i s hi => by
      have hlt := (List.getElem?_eq_some_iff.1 hi).1
      obtain ⟨A', c', e, _⟩ := (hsub i _ s (List.getElem?_eq_getElem (by omega)) hi).form
      exact ⟨A', _, c', e⟩
    have HSUB := Lib.hid hfm
    have HIH := Lib.hid ih
    have HR := Lib.hid hr
    have HB := Lib.hid hb
    have HN := Lib.hid hN
    clear ih hsub hr hb hN hfm
    go_enter Try.func58, Try.ntmps58
    go_wp2_with fail
    go_loopw [5, 11] (fun y x wr => ∃ (i t : Nat), i ≤ m ∧ x = .int .i64 i ∧ y = .int .i64 t ∧ t ≤ most + 1 ∧ t = min (sizeL (fs.take i) + 1) (most + 1) ∧ Below w.heap.size w wr) (fun _ x _ => m - (intOf x).toNat)
    case atStart => exact ⟨0, 1, Nat.zero_le _, rfl, rfl, by omega, by simp [sizeL], (Below.refl _ _).alloc (Nat.le_refl _) _⟩
    case round =>
      obtain ⟨i, t, hi, rfl, rfl, htm, htt, hbk⟩ := hrel
      by_cases hlt : i < m
      · have hf : fs[i]? = some fs[i] := List.getElem?_eq_getElem (by omega)
        have hss : ss[i]? = some ss[i] := List.getElem?_eq_getElem (by omega)
        have h0r : Below w0.heap.size w0 wr := HB.out.trans (hbk.mono HB.out.size)
        obtain ⟨b, off, rfl, x0, x1, x2, hbs⟩ := (HR.out.below h0r).f3 i hlt hf hss
        have hsn := nodes_snoc fs i _ hf
        have hle : sizeL (fs.take (i + 1)) ≤ sizeL fs := by
          have := sizeL_append (fs.take (i + 1)) (fs.drop (i + 1))
          rw [List.take_append_drop] at this
          omega
        generalize fs[i] = f at *
        generalize ss[i] = s at *
        obtain ⟨A', n', c', rfl⟩ := HSUB.out i s hss
        have hp := sizeF_pos f
        by_cases ht : most < t
        · have ht' : (most : Int) < (t : Int) := by omega
          have hNt : N = t := by have := HN.out; omega
          have HB2 := Lib.hid hbk
          clear hbk hf hss h0r htt hsn ht hle hp
          subst hNt
          go_wp2_with fail
          go_ret
          exact ⟨rfl, HB2.out.alloc HB2.out.size _⟩
        · have ht' : ¬ (most : Int) < (t : Int) := by omega
          have hcall := HIH.out i f _ hf hss (wr.alloc (.cells #[.int .i64 f.k, .int .i64 f.a, .slice A' n' c'] 66)) f.k f.a (most - t) (h0r.alloc h0r.size _) (by omega)
          rw [f.eta, show ((most - t : Nat) : Int) = (most : Int) - (t : Int) by omega] at hcall
          have hu : nodesF f (most - t) = min (sizeF f) (most - t + 1) := rfl
          generalize nodesF f (most - t) = u at *
          have hu2 : t + u ≤ most + 1 := by omega
          have hu3 : t + u = min (sizeL (fs.take (i + 1)) + 1) (most + 1) := by omega
          have HU := Lib.hid hu3
          have HB2 := Lib.hid hbk
          clear hbk hf hss h0r htt hsn hle hp hu hu3 ht
          go_wp2_with (go_at_call 58; refine hcall.mono ?_; rintro e w3 ⟨rfl, hb3⟩)
          go_roundw
          case rel => exact ⟨i + 1, t + u, by omega, by go_num, by go_num, hu2, HU.out, (HB2.out.alloc HB2.out.size _).trans (hb3.mono (by have := HB2.out.size; simp; omega))⟩
          case measure => simp [intOf]; omega
      · obtain rfl : i = m := by omega
        rw [List.take_of_length_le (by omega)] at htt
        have hNt : N = t := by have := HN.out; omega
        clear htt
        subst hNt
        go_wp2_with fail
        go_ret
        exact ⟨rfl, hbk⟩
end Go.Proofs.Ytbcabcdgblmnkaa

namespace Go.Proofs.Ytbcabcdgblmnkaa
open Go.RowKit
set_option linter.unusedVariables false
set_option linter.unusedSimpArgs false

theorem FIn.forms {w : World} {fs : List Fm} {ss : List Value} {n : Nat} (hl : fs.length = n) (hs : ss.length = n) (hsub : ∀ (i : Nat) (f : Fm) (s : Value), fs[i]? = some f → ss[i]? = some s → FIn w f.sub s) :
    ∀ (i : Nat) (s : Value), ss[i]? = some s → ∃ A n c, s = Value.slice A n c := fun i s hi => by
  have hlt := (List.getElem?_eq_some_iff.1 hi).1
  obtain ⟨A', c', e, _⟩ := (hsub i _ s (List.getElem?_eq_getElem (by omega)) hi).form
  exact ⟨A', _, c', e⟩
set_option maxRecDepth 100000 in
set_option maxHeartbeats 4000000 in
theorem over_any {w0 : World} {fs : List Fm} {sv : Value} (h : FIn w0 fs sv) : ∀ (w : World) (k a : Int) (d : Nat), Below w0.heap.size w0 w → d ≤ 201 →
    Calls Try.prog 55 #[.agg #[.int .i64 k, .int .i64 a, sv], .int .i64 (d : Int)] w fun e w' => e = .returned (.int .i64 (overF (.mk k a fs) d)) ∧ Below w.heap.size w w' := by
  induction h with
  | mk A m c fs ss hl hs hnc hc hr hsub ih =>
    intro w k a d hb hd
    rw [overF]
    by_cases h200 : 200 < d
    · rw [if_pos h200]
      have h200' : (200 : Int) < (d : Int) := by omega
      clear ih hr hsub
      go_enter Try.func55, Try.ntmps55
      go_wp2_with fail
      go_ret
      exact ⟨rfl, (Below.refl _ _).alloc (Nat.le_refl _) _⟩
    rw [if_neg h200]
    have h200' : ¬ (200 : Int) < (d : Int) := by omega
    unfold maxLen at hc
    generalize hC : overL fs 1 d = C
    have hfm := FIn.forms hl hs hsub
    have HSUB := Lib.hid hfm
    have HIH := Lib.hid ih
    have HR := Lib.hid hr
    have HB := Lib.hid hb
    have HC := Lib.hid hC
    clear ih hsub hr hb hC hfm
    go_enter Try.func55, Try.ntmps55
    go_wp2_with fail
    go_loopw [5, 14] (fun y x wr => ∃ (i t : Nat), i ≤ m ∧ x = .int .i64 i ∧ y = .int .i64 t ∧ t ≤ 20000 ∧ overL (fs.drop i) t d = C ∧ Below w.heap.size w wr) (fun _ x _ => m - (intOf x).toNat)
    case atStart => exact ⟨0, 1, Nat.zero_le _, rfl, rfl, by omega, by simpa using HC.out, (Below.refl _ _).alloc (Nat.le_refl _) _⟩
    case round =>
      obtain ⟨i, t, hi, rfl, rfl, ht, hC, hbk⟩ := hrel
      by_cases hlt : i < m
      · have hf : fs[i]? = some fs[i] := List.getElem?_eq_getElem (by omega)
        have hss : ss[i]? = some ss[i] := List.getElem?_eq_getElem (by omega)
        have h0r : Below w0.heap.size w0 wr := HB.out.trans (hbk.mono HB.out.size)
        obtain ⟨b, off, rfl, x0, x1, x2, hbs⟩ := (HR.out.below h0r).f3 i hlt hf hss
        rw [drop_cons fs i _ hf, overL] at hC
        generalize fs[i] = f at *
        generalize ss[i] = s at *
        obtain ⟨A', n', c', rfl⟩ := HSUB.out i s hss
        have hcall := HIH.out i f _ hf hss (wr.alloc (.cells #[.int .i64 f.k, .int .i64 f.a, .slice A' n' c'] 66)) f.k f.a (d + 1) (h0r.alloc h0r.size _) (by omega)
        rw [f.eta, show ((d + 1 : Nat) : Int) = (d : Int) + 1 by omega] at hcall
        obtain ⟨hu1, hu2⟩ := over_ge f (d + 1)
        generalize overF f (d + 1) = u at *
        have HB2 := Lib.hid hbk
        clear hbk hf hss h0r
        by_cases hu : u < 0
        · rw [if_pos (.inl hu)] at hC
          subst hC
          go_wp2_with (go_at_call 55; refine hcall.mono ?_; rintro e w3 ⟨rfl, hb3⟩)
          go_ret
          exact ⟨rfl, (HB2.out.alloc HB2.out.size _).trans (hb3.mono (by have := HB2.out.size; simp; omega))⟩
        · by_cases hv : 20000 < (t : Int) + u
          · rw [if_pos (.inr hv)] at hC
            subst hC
            go_wp2_with (go_at_call 55; refine hcall.mono ?_; rintro e w3 ⟨rfl, hb3⟩)
            go_ret
            exact ⟨rfl, (HB2.out.alloc HB2.out.size _).trans (hb3.mono (by have := HB2.out.size; simp; omega))⟩
          · rw [if_neg (by omega)] at hC
            have HCC := Lib.hid hC
            clear hC
            go_wp2_with (go_at_call 55; refine hcall.mono ?_; rintro e w3 ⟨rfl, hb3⟩)
            go_roundw
            case rel => exact ⟨i + 1, t + u.toNat, by omega, by go_num, congrArg (Value.int .i64) (by omega), by omega, HCC.out, (HB2.out.alloc HB2.out.size _).trans (hb3.mono (by have := HB2.out.size; simp; omega))⟩
            case measure => simp [intOf]; omega
      · obtain rfl : i = m := by omega
        rw [List.drop_of_length_le (by omega), overL] at hC
        subst hC
        go_wp2_with fail
        go_ret
        exact ⟨rfl, hbk⟩

set_option maxRecDepth 100000 in
set_option maxHeartbeats 4000000 in
theorem form_any {w0 : World} {fs : List Fm} {sv : Value} (h : FIn w0 fs sv) : ∀ (w : World) (k a n : Int), Below w0.heap.size w0 w →
    Calls Try.prog 56 #[.agg #[.int .i64 k, .int .i64 a, sv], .int .i64 n] w fun e w' => e = .returned (.bool (shapeF (.mk k a fs) n)) ∧ Below w.heap.size w w' := by
  induction h with
  | mk A m c fs ss hl hs hnc hc hr hsub ih =>
    intro w k a n hb
    rw [shapeF, hl]
    unfold maxLen at hc
    have hfm := FIn.forms hl hs hsub
    have HSUB := Lib.hid hfm
    have HIH := Lib.hid ih
    have HR := Lib.hid hr
    have HB0 := Lib.hid hb
    clear ih hr hsub hb hfm
    by_cases k1 : k = 1
    · subst k1
      rw [if_pos rfl]
      by_cases ha : 0 ≤ a
      · by_cases han : a < n
        · by_cases hm : m = 0
          · subst hm
            go_enter Try.func56, Try.ntmps56
            go_wp2_with fail
            go_ret
            exact ⟨by simp [ha, han] <;> omega, (Below.refl _ _).alloc (Nat.le_refl _) _⟩
          · have hm' : ¬ (m : Int) = 0 := by omega
            have hm'' : ((m : Int) == 0) = false := by simpa using hm'
            go_enter Try.func56, Try.ntmps56
            go_wp2_with fail
            go_ret
            exact ⟨by simp [ha, han, hm] <;> omega, (Below.refl _ _).alloc (Nat.le_refl _) _⟩
        · have hd' : decide (a < n) = false := decide_eq_false han
          go_enter Try.func56, Try.ntmps56
          go_wp2_with fail
          go_ret
          exact ⟨by simp [ha, han] <;> omega, (Below.refl _ _).alloc (Nat.le_refl _) _⟩
      · have hd' : decide (0 ≤ a) = false := decide_eq_false ha
        go_enter Try.func56, Try.ntmps56
        go_wp2_with fail
        go_ret
        exact ⟨by simp [ha] <;> omega, (Below.refl _ _).alloc (Nat.le_refl _) _⟩
    rw [if_neg k1]
    by_cases k5 : k = 5
    · subst k5
      rw [if_pos (.inl rfl)]
      by_cases hm : m = 0
      · subst hm
        go_enter Try.func56, Try.ntmps56
        go_wp2_with fail
        go_ret
        exact ⟨by simp [Nat.zero_add] <;> omega, (Below.refl _ _).alloc (Nat.le_refl _) _⟩
      · have hm' : ¬ (m : Int) = 0 := by omega
        have hm'' : ((m : Int) == 0) = false := by simpa using hm'
        go_enter Try.func56, Try.ntmps56
        go_wp2_with fail
        go_ret
        exact ⟨by simp [hm] <;> omega, (Below.refl _ _).alloc (Nat.le_refl _) _⟩
    by_cases k6 : k = 6
    · subst k6
      rw [if_pos (.inr rfl)]
      by_cases hm : m = 0
      · subst hm
        go_enter Try.func56, Try.ntmps56
        go_wp2_with fail
        go_ret
        exact ⟨by simp [Nat.zero_add] <;> omega, (Below.refl _ _).alloc (Nat.le_refl _) _⟩
      · have hm' : ¬ (m : Int) = 0 := by omega
        have hm'' : ((m : Int) == 0) = false := by simpa using hm'
        go_enter Try.func56, Try.ntmps56
        go_wp2_with fail
        go_ret
        exact ⟨by simp [hm] <;> omega, (Below.refl _ _).alloc (Nat.le_refl _) _⟩
    rw [if_neg (by omega)]
    by_cases k2 : k = 2
    · subst k2
      rw [if_pos rfl]
      by_cases hm : m = 1
      · rw [decide_eq_true hm, Bool.true_and]
        subst hm
        obtain ⟨f, rfl⟩ : ∃ f, fs = [f] := List.length_eq_one_iff.1 hl
        obtain ⟨s, rfl⟩ : ∃ s, ss = [s] := List.length_eq_one_iff.1 hs
        rw [shapeL, shapeL, Bool.and_true]
        have h1 : Below w0.heap.size w0 (w.alloc (.cells #[.int .i64 2, .int .i64 a, .slice A 1 c] 66)) := HB0.out.alloc HB0.out.size _
        obtain ⟨b, off, rfl, x0, x1, x2, hbs⟩ := (HR.out.below h1).f3 0 (by omega) (f := f) (s := s) rfl rfl
        simp only [Nat.zero_mul, Nat.add_zero] at x0 x1 x2
        obtain ⟨A', n', c', rfl⟩ := HSUB.out 0 s rfl
        have hcall := HIH.out 0 f _ rfl rfl _ f.k f.a n h1
        rw [f.eta] at hcall
        generalize shapeF f n = u at *
        have HB1 := Lib.hid ((Below.refl w.heap.size w).alloc (Nat.le_refl _) (.cells #[.int .i64 2, .int .i64 a, .slice (some ⟨b, off, none⟩) 1 c] 66))
        clear HIH HSUB HR HB0 h1
        go_enter Try.func56, Try.ntmps56
        go_wp2_with (go_at_call 56; refine hcall.mono ?_; rintro e w3 ⟨rfl, hb3⟩)
        go_ret
        exact ⟨rfl, HB1.out.trans (hb3.mono HB1.out.size)⟩
      · rw [decide_eq_false hm, Bool.false_and]
        have hm' : ¬ (m : Int) = 1 := by omega
        have hm'' : ((m : Int) == 1) = false := by simpa using hm'
        go_enter Try.func56, Try.ntmps56
        go_wp2_with fail
        go_ret
        exact ⟨by simp [hm] <;> omega, (Below.refl _ _).alloc (Nat.le_refl _) _⟩
    rw [if_neg k2]
    by_cases k3 : k = 3
    · subst k3
      rw [if_pos (.inl rfl)]
      generalize hC : shapeL fs n = C
      have HC := Lib.hid hC
      clear hC
      go_enter Try.func56, Try.ntmps56
      go_wp2_with fail
      go_loopw [53] (fun x wr => ∃ (i : Nat), i ≤ m ∧ x = .int .i64 i ∧ shapeL (fs.drop i) n = C ∧ Below w.heap.size w wr) (fun x _ => m - (intOf x).toNat)
      case atStart => exact ⟨0, Nat.zero_le _, rfl, by simpa using HC.out, (Below.refl _ _).alloc (Nat.le_refl _) _⟩
      case round =>
        obtain ⟨i, hi, rfl, hC, hbk⟩ := hrel
        by_cases hlt : i < m
        · have hf : fs[i]? = some fs[i] := List.getElem?_eq_getElem (by omega)
          have hss : ss[i]? = some ss[i] := List.getElem?_eq_getElem (by omega)
          have h0r : Below w0.heap.size w0 wr := HB0.out.trans (hbk.mono HB0.out.size)
          obtain ⟨b, off, rfl, x0, x1, x2, hbs⟩ := (HR.out.below h0r).f3 i hlt hf hss
          rw [drop_cons fs i _ hf, shapeL] at hC
          generalize fs[i] = f at *
          generalize ss[i] = s at *
          obtain ⟨A', n', c', rfl⟩ := HSUB.out i s hss
          have hcall := HIH.out i f _ hf hss (wr.alloc (.cells #[.int .i64 f.k, .int .i64 f.a, .slice A' n' c'] 66)) f.k f.a n (h0r.alloc h0r.size _)
          rw [f.eta] at hcall
          generalize shapeF f n = u at *
          have HCALL := Lib.hid hcall
          have HB := Lib.hid hbk
          clear hcall hbk hf hss h0r
          cases u with
          | true =>
            rw [Bool.true_and] at hC
            have HCC := Lib.hid hC
            clear hC
            go_wp2_with (go_at_call 56; refine HCALL.out.mono ?_; rintro e w3 ⟨rfl, hb3⟩)
            go_roundw
            case rel => exact ⟨i + 1, by omega, by go_num, HCC.out, (HB.out.alloc HB.out.size _).trans (hb3.mono (by have := HB.out.size; simp; omega))⟩
            case measure => simp [intOf]; omega
          | false =>
            rw [Bool.false_and] at hC
            subst hC
            go_wp2_with (go_at_call 56; refine HCALL.out.mono ?_; rintro e w3 ⟨rfl, hb3⟩)
            go_ret
            exact ⟨rfl, (HB.out.alloc HB.out.size _).trans (hb3.mono (by have := HB.out.size; simp; omega))⟩
        · obtain rfl : i = m := by omega
          rw [List.drop_of_length_le (by omega), shapeL] at hC
          subst hC
          go_wp2_with fail
          go_ret
          exact ⟨rfl, hbk⟩
    by_cases k4 : k = 4
    · subst k4
      rw [if_pos (.inr rfl)]
      generalize hC : shapeL fs n = C
      have HC := Lib.hid hC
      clear hC
      go_enter Try.func56, Try.ntmps56
      go_wp2_with fail
      go_loopw [53] (fun x wr => ∃ (i : Nat), i ≤ m ∧ x = .int .i64 i ∧ shapeL (fs.drop i) n = C ∧ Below w.heap.size w wr) (fun x _ => m - (intOf x).toNat)
      case atStart => exact ⟨0, Nat.zero_le _, rfl, by simpa using HC.out, (Below.refl _ _).alloc (Nat.le_refl _) _⟩
      case round =>
        obtain ⟨i, hi, rfl, hC, hbk⟩ := hrel
        by_cases hlt : i < m
        · have hf : fs[i]? = some fs[i] := List.getElem?_eq_getElem (by omega)
          have hss : ss[i]? = some ss[i] := List.getElem?_eq_getElem (by omega)
          have h0r : Below w0.heap.size w0 wr := HB0.out.trans (hbk.mono HB0.out.size)
          obtain ⟨b, off, rfl, x0, x1, x2, hbs⟩ := (HR.out.below h0r).f3 i hlt hf hss
          rw [drop_cons fs i _ hf, shapeL] at hC
          generalize fs[i] = f at *
          generalize ss[i] = s at *
          obtain ⟨A', n', c', rfl⟩ := HSUB.out i s hss
          have hcall := HIH.out i f _ hf hss (wr.alloc (.cells #[.int .i64 f.k, .int .i64 f.a, .slice A' n' c'] 66)) f.k f.a n (h0r.alloc h0r.size _)
          rw [f.eta] at hcall
          generalize shapeF f n = u at *
          have HCALL := Lib.hid hcall
          have HB := Lib.hid hbk
          clear hcall hbk hf hss h0r
          cases u with
          | true =>
            rw [Bool.true_and] at hC
            have HCC := Lib.hid hC
            clear hC
            go_wp2_with (go_at_call 56; refine HCALL.out.mono ?_; rintro e w3 ⟨rfl, hb3⟩)
            go_roundw
            case rel => exact ⟨i + 1, by omega, by go_num, HCC.out, (HB.out.alloc HB.out.size _).trans (hb3.mono (by have := HB.out.size; simp; omega))⟩
            case measure => simp [intOf]; omega
          | false =>
            rw [Bool.false_and] at hC
            subst hC
            go_wp2_with (go_at_call 56; refine HCALL.out.mono ?_; rintro e w3 ⟨rfl, hb3⟩)
            go_ret
            exact ⟨rfl, (HB.out.alloc HB.out.size _).trans (hb3.mono (by have := HB.out.size; simp; omega))⟩
        · obtain rfl : i = m := by omega
          rw [List.drop_of_length_le (by omega), shapeL] at hC
          subst hC
          go_wp2_with fail
          go_ret
          exact ⟨rfl, hbk⟩
    · rw [if_neg (by omega)]
      go_enter Try.func56, Try.ntmps56
      go_wp2_with fail
      go_ret
      exact ⟨by simp [k1] <;> omega, (Below.refl _ _).alloc (Nat.le_refl _) _⟩

theorem rcheck_any {w0 : World} {fs : List Fm} {sv : Value} (h : FIn w0 fs sv) (w : World) (k a n : Int) (hb : Below w0.heap.size w0 w) :
    Calls Try.prog 32 #[.agg #[.int .i64 k, .int .i64 a, sv], .int .i64 n] w fun e w' => e = .returned (.int .i64 (checkF (.mk k a fs) n)) ∧ Below w.heap.size w w' := by
  have hb1 : Below w.heap.size w (w.alloc (.cells #[.int .i64 k, .int .i64 a, sv] 66)) := (Below.refl _ _).alloc (Nat.le_refl _) _
  have h1 := over_any h (w.alloc (.cells #[.int .i64 k, .int .i64 a, sv] 66)) k a 1 (hb.trans (hb1.mono hb.size)) (by omega)
  have h2 := fun W hW => form_any h W k a n hW
  have hg := over_great (.mk k a fs)
  rw [checkF_eq]
  obtain ⟨A, c, rfl, _, _⟩ := h.form
  generalize overF (.mk k a fs) 1 = C at *
  generalize shapeF (.mk k a fs) n = S at *
  generalize great (.mk k a fs) = G at *
  have H2 := Lib.hid h2
  have HB := Lib.hid hb
  have HB1 := Lib.hid hb1
  clear h2 hb hb1 h
  cases G with
  | true =>
    rw [if_pos rfl]
    have hC := hg.2 rfl
    clear hg
    go_enter Try.func32, Try.ntmps32
    go_wp2_with (go_at_call 55; refine h1.mono ?_; rintro e w1 ⟨rfl, hb2⟩)
    go_ret
    exact ⟨rfl, HB1.out.trans (hb2.mono HB1.out.size)⟩
  | false =>
    rw [if_neg (by simp)]
    have hC : ¬ C < 0 := fun h => by have := hg.1 h; cases this
    clear hg
    cases S with
    | true =>
      rw [if_pos rfl]
      go_enter Try.func32, Try.ntmps32
      go_wp2_with (first | (go_at_call 55; refine h1.mono ?_; rintro e w1 ⟨rfl, hb2⟩; have c0 := (hb2.cell (p := ⟨w.heap.size, 0, none⟩) (by simp)).trans (cell_of_blk (heap_alloc_new w _) 0); have c1 := (hb2.cell (p := ⟨w.heap.size, 1, none⟩) (by simp)).trans (cell_of_blk (heap_alloc_new w _) 1); have c2 := (hb2.cell (p := ⟨w.heap.size, 2, none⟩) (by simp)).trans (cell_of_blk (heap_alloc_new w _) 2); simp at c0 c1 c2; have HB2 := Lib.hid (HB1.out.trans (hb2.mono HB1.out.size)); clear hb2) | (go_at_call 56; refine (H2.out _ (HB.out.trans (HB2.out.mono HB.out.size))).mono ?_; rintro e w2 ⟨rfl, hb3⟩))
      go_ret
      exact ⟨rfl, HB2.out.trans (hb3.mono HB2.out.size)⟩
    | false =>
      rw [if_neg (by simp)]
      go_enter Try.func32, Try.ntmps32
      go_wp2_with (first | (go_at_call 55; refine h1.mono ?_; rintro e w1 ⟨rfl, hb2⟩; have c0 := (hb2.cell (p := ⟨w.heap.size, 0, none⟩) (by simp)).trans (cell_of_blk (heap_alloc_new w _) 0); have c1 := (hb2.cell (p := ⟨w.heap.size, 1, none⟩) (by simp)).trans (cell_of_blk (heap_alloc_new w _) 1); have c2 := (hb2.cell (p := ⟨w.heap.size, 2, none⟩) (by simp)).trans (cell_of_blk (heap_alloc_new w _) 2); simp at c0 c1 c2; have HB2 := Lib.hid (HB1.out.trans (hb2.mono HB1.out.size)); clear hb2) | (go_at_call 56; refine (H2.out _ (HB.out.trans (HB2.out.mono HB.out.size))).mono ?_; rintro e w2 ⟨rfl, hb3⟩))
      go_ret
      exact ⟨rfl, HB2.out.trans (hb3.mono HB2.out.size)⟩

end Go.Proofs.Ytbcabcdgblmnkaa
