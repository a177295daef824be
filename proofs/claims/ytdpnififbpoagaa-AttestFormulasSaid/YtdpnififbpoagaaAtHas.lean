/- Contract of the reference of formulas: Has. -/
import Derived.Test.YtdpnififbpoagaaAtAtoms
namespace Go.Proofs.Ytdpnififbpoagaa
open Go.RowKit
set_option linter.unusedVariables false
set_option linter.unusedSimpArgs false

def hasF (f : Fm) (x : Int) : Bool := decide (x ∈ atomsF f)
def hasL (fs : List Fm) (x : Int) : Bool := decide (x ∈ atomsL fs)
theorem hasL_nil (x : Int) : hasL [] x = false := by simp [hasL, atomsL]
theorem hasL_cons (f : Fm) (fs : List Fm) (x : Int) : hasL (f :: fs) x = (hasF f x || hasL fs x) := by simp [hasL, hasF, atomsL]
theorem hasF_lit (a : Int) (fs : List Fm) (x : Int) (h : a = x) : hasF (.mk 1 a fs) x = true := by simp [hasF, atomsF, h]
theorem hasF_other (k a : Int) (fs : List Fm) (x : Int) (h : ¬ (k = 1 ∧ a = x)) : hasF (.mk k a fs) x = hasL fs x := by
  unfold hasF hasL
  rw [atomsF]
  by_cases hk : k = 1
  · have ha : ¬ x = a := fun e => h ⟨hk, e.symm⟩
    simp [hk, ha]
  · simp [hk]

set_option maxRecDepth 100000 in
set_option maxHeartbeats 4000000 in
theorem rhas_any {w0 : World} {fs : List Fm} {sv : Value} (h : FIn w0 fs sv) (x : Int) : ∀ (w : World) (k a : Int), Below w0.heap.size w0 w →
    Calls Try.prog 45 #[.agg #[.int .i64 k, .int .i64 a, sv], .int .i64 x] w fun e w' => e = .returned (.bool (hasF (.mk k a fs) x)) ∧ Below w.heap.size w w' := by
  induction h with
  | mk A m c fs ss hl hs hnc hc hr hsub ih =>
    intro w k a hb
    unfold maxLen at hc
    have b1 : Below w.heap.size w (w.alloc (.cells #[.int .i64 k, .int .i64 a, .slice A m c] 57)) := (Below.refl _ _).alloc (Nat.le_refl _) _
    have hfm := FIn.forms hl hs hsub
    have HSUB := Lib.hid hfm
    have HIH := Lib.hid ih
    have HR := Lib.hid hr
    have HB0 := Lib.hid hb
    clear ih hr hsub hfm
    by_cases k1 : k = 1
    · subst k1
      by_cases ha : a = x
      · rw [hasF_lit a fs x ha]
        subst ha
        clear HSUB HIH HR HB0 hb
        go_enter Try.func45, Try.ntmps45
        go_wp2_with fail
        go_ret
        exact ⟨rfl, b1⟩
      · rw [hasF_other 1 a fs x (fun h => ha h.2)]
        have ha' : (a == x) = false := by simpa using ha
        clear hb
        generalize hC : hasL fs x = C
        have HC := Lib.hid hC
        clear hC
        go_enter Try.func45, Try.ntmps45
        go_wp2_with fail
        go_loopw [19] (fun y wr => ∃ (i : Nat), i ≤ m ∧ y = .int .i64 i ∧ hasL (fs.drop i) x = C ∧ Below w.heap.size w wr) (fun y _ => m - (intOf y).toNat)
        case atStart => exact ⟨0, Nat.zero_le _, rfl, by simpa using HC.out, (Below.refl _ _).alloc (Nat.le_refl _) _⟩
        case round =>
          obtain ⟨i, hi, rfl, hC, hbk⟩ := hrel
          by_cases hlt : i < m
          · have hf : fs[i]? = some fs[i] := List.getElem?_eq_getElem (by omega)
            have hss : ss[i]? = some ss[i] := List.getElem?_eq_getElem (by omega)
            have h0r : Below w0.heap.size w0 wr := HB0.out.trans (hbk.mono HB0.out.size)
            obtain ⟨b, off, rfl, x0, x1, x2, hbs⟩ := (HR.out.below h0r).f3 i hlt hf hss
            rw [drop_cons fs i _ hf, hasL_cons] at hC
            generalize fs[i] = f at *
            generalize ss[i] = s at *
            obtain ⟨A', n', c', rfl⟩ := HSUB.out i s hss
            have hcall := HIH.out i f _ hf hss (wr.alloc (.cells #[.int .i64 f.k, .int .i64 f.a, .slice A' n' c'] 57)) f.k f.a (h0r.alloc h0r.size _)
            rw [f.eta] at hcall
            generalize hasF f x = u at *
            have HCALL := Lib.hid hcall
            have HB := Lib.hid hbk
            clear hcall hbk hf hss h0r
            cases u with
            | false =>
              rw [Bool.false_or] at hC
              have HCC := Lib.hid hC
              clear hC
              go_wp2_with (go_at_call 45; refine HCALL.out.mono ?_; rintro e w3 ⟨rfl, hb3⟩)
              go_roundw
              case rel => exact ⟨i + 1, by omega, by go_num, HCC.out, (HB.out.alloc HB.out.size _).trans (hb3.mono (by have := HB.out.size; simp; omega))⟩
              case measure => simp [intOf]; omega
            | true =>
              rw [Bool.true_or] at hC
              subst hC
              go_wp2_with (go_at_call 45; refine HCALL.out.mono ?_; rintro e w3 ⟨rfl, hb3⟩)
              go_ret
              exact ⟨rfl, (HB.out.alloc HB.out.size _).trans (hb3.mono (by have := HB.out.size; simp; omega))⟩
          · obtain rfl : i = m := by omega
            rw [List.drop_of_length_le (by omega), hasL_nil] at hC
            subst hC
            go_wp2_with fail
            go_ret
            exact ⟨rfl, hbk⟩
    · rw [hasF_other k a fs x (fun h => k1 h.1)]
      have k1' : (k == 1) = false := by simpa using k1
      clear hb
      generalize hC : hasL fs x = C
      have HC := Lib.hid hC
      clear hC
      go_enter Try.func45, Try.ntmps45
      go_wp2_with fail
      go_loopw [19] (fun y wr => ∃ (i : Nat), i ≤ m ∧ y = .int .i64 i ∧ hasL (fs.drop i) x = C ∧ Below w.heap.size w wr) (fun y _ => m - (intOf y).toNat)
      case atStart => exact ⟨0, Nat.zero_le _, rfl, by simpa using HC.out, (Below.refl _ _).alloc (Nat.le_refl _) _⟩
      case round =>
        obtain ⟨i, hi, rfl, hC, hbk⟩ := hrel
        by_cases hlt : i < m
        · have hf : fs[i]? = some fs[i] := List.getElem?_eq_getElem (by omega)
          have hss : ss[i]? = some ss[i] := List.getElem?_eq_getElem (by omega)
          have h0r : Below w0.heap.size w0 wr := HB0.out.trans (hbk.mono HB0.out.size)
          obtain ⟨b, off, rfl, x0, x1, x2, hbs⟩ := (HR.out.below h0r).f3 i hlt hf hss
          rw [drop_cons fs i _ hf, hasL_cons] at hC
          generalize fs[i] = f at *
          generalize ss[i] = s at *
          obtain ⟨A', n', c', rfl⟩ := HSUB.out i s hss
          have hcall := HIH.out i f _ hf hss (wr.alloc (.cells #[.int .i64 f.k, .int .i64 f.a, .slice A' n' c'] 57)) f.k f.a (h0r.alloc h0r.size _)
          rw [f.eta] at hcall
          generalize hasF f x = u at *
          have HCALL := Lib.hid hcall
          have HB := Lib.hid hbk
          clear hcall hbk hf hss h0r
          cases u with
          | false =>
            rw [Bool.false_or] at hC
            have HCC := Lib.hid hC
            clear hC
            go_wp2_with (go_at_call 45; refine HCALL.out.mono ?_; rintro e w3 ⟨rfl, hb3⟩)
            go_roundw
            case rel => exact ⟨i + 1, by omega, by go_num, HCC.out, (HB.out.alloc HB.out.size _).trans (hb3.mono (by have := HB.out.size; simp; omega))⟩
            case measure => simp [intOf]; omega
          | true =>
            rw [Bool.true_or] at hC
            subst hC
            go_wp2_with (go_at_call 45; refine HCALL.out.mono ?_; rintro e w3 ⟨rfl, hb3⟩)
            go_ret
            exact ⟨rfl, (HB.out.alloc HB.out.size _).trans (hb3.mono (by have := HB.out.size; simp; omega))⟩
        · obtain rfl : i = m := by omega
          rw [List.drop_of_length_le (by omega), hasL_nil] at hC
          subst hC
          go_wp2_with fail
          go_ret
          exact ⟨rfl, hbk⟩
end Go.Proofs.Ytdpnififbpoagaa
