/- Contract of the reference of formulas: Eval. -/
import Derived.Test.YtbcabcdgblmnkaaFmRef
namespace Go.Proofs.Ytbcabcdgblmnkaa
open Go.RowKit
set_option linter.unusedVariables false
set_option linter.unusedSimpArgs false

set_option maxRecDepth 100000 in
set_option maxHeartbeats 4000000 in
theorem reval_any {w0 : World} {fs : List Fm} {sv : Value} (h : FIn w0 fs sv) (vals : List Bool) (A2 : Option Addr) (n c2 : Nat) (hn : vals.length = n) (hv : Rd w0 1 A2 n (boolL vals)) : ∀ (w : World) (k a : Int), Below w0.heap.size w0 w → shapeF (.mk k a fs) n = true →
    Calls Try.prog 39 #[.agg #[.int .i64 k, .int .i64 a, sv], .slice A2 n c2] w fun e w' => e = .returned (.bool (evalF (.mk k a fs) vals)) ∧ Below w.heap.size w w' := by
  induction h with
  | mk A m c fs ss hl hs hnc hc hr hsub ih =>
    intro w k a hb hsh
    rw [shapeF, hl] at hsh
    rw [evalF]
    unfold maxLen at hc
    have b1 : Below w.heap.size w (w.alloc (.cells #[.int .i64 k, .int .i64 a, .slice A m c] 66)) := (Below.refl _ _).alloc (Nat.le_refl _) _
    have hfm := FIn.forms hl hs hsub
    have HSUB := Lib.hid hfm
    have HIH := Lib.hid ih
    have HR := Lib.hid hr
    have HB0 := Lib.hid hb
    clear ih hr hsub hfm
    by_cases k1 : k = 1
    · subst k1
      rw [if_pos rfl] at hsh ⊢
      simp only [Bool.and_eq_true, decide_eq_true_eq] at hsh
      obtain ⟨ha, han, hm⟩ := hsh
      subst hm
      obtain ⟨x, rfl⟩ : ∃ x : Nat, a = x := ⟨a.toNat, by omega⟩
      have hxn : x < n := by omega
      obtain ⟨b5, o5, u, rfl, hu, hc5⟩ := (hv.below (hb.alloc hb.size (.cells #[.int .i64 1, .int .i64 (x : Int), .slice A 0 c] 66))).at_ hxn
      have hx : vals[x]? = some (vals.getD x false) := by rw [List.getD_eq_getElem?_getD, List.getElem?_eq_getElem (by omega)]; rfl
      simp only [boolL, List.getElem?_map, hx, Option.map_some, Option.some.injEq] at hu
      subst hu
      rw [Int.toNat_natCast]
      generalize vals.getD x false = y at *
      have HB2 := Lib.hid b1
      clear hx hv HR HIH HSUB b1 hb HB0
      go_enter Try.func39, Try.ntmps39
      go_wp2_with fail
      go_ret
      exact ⟨rfl, HB2.out⟩
    rw [if_neg k1] at hsh ⊢
    by_cases k5 : k = 5 ∨ k = 6
    · have k2 : ¬ k = 2 := by omega
      have k3 : ¬ k = 3 := by omega
      have k4 : ¬ k = 4 := by omega
      rw [if_neg k2, if_neg k3, if_neg k4]
      have HB2 := Lib.hid b1
      clear hv HR HIH HSUB b1 hsh hb
      rcases k5 with rfl | rfl
      · go_enter Try.func39, Try.ntmps39
        go_wp2_with fail
        go_ret
        exact ⟨rfl, HB2.out⟩
      · go_enter Try.func39, Try.ntmps39
        go_wp2_with fail
        go_ret
        exact ⟨rfl, HB2.out⟩
    rw [if_neg k5] at hsh
    by_cases k2 : k = 2
    · subst k2
      rw [if_pos rfl] at hsh ⊢
      simp only [Bool.and_eq_true, decide_eq_true_eq] at hsh
      obtain ⟨hm, hsh⟩ := hsh
      subst hm
      obtain ⟨f, rfl⟩ : ∃ f, fs = [f] := List.length_eq_one_iff.1 hl
      obtain ⟨s, rfl⟩ : ∃ s, ss = [s] := List.length_eq_one_iff.1 hs
      have h1 : Below w0.heap.size w0 (w.alloc (.cells #[.int .i64 2, .int .i64 a, .slice A 1 c] 66)) := HB0.out.alloc HB0.out.size _
      obtain ⟨b, off, rfl, x0, x1, x2, hbs⟩ := (HR.out.below h1).f3 0 (by omega) (f := f) (s := s) rfl rfl
      simp only [Nat.zero_mul, Nat.add_zero] at x0 x1 x2
      obtain ⟨A', n', c', rfl⟩ := HSUB.out 0 s rfl
      have hcall := HIH.out 0 f _ rfl rfl _ f.k f.a h1 (by rw [f.eta]; exact shapeL_get [f] n hsh 0 f rfl)
      rw [f.eta] at hcall
      rw [evalN]
      generalize evalF f vals = u at *
      have HB1 := Lib.hid b1
      clear HIH HSUB HR HB0 h1 hv hsh b1 hb
      go_enter Try.func39, Try.ntmps39
      go_wp2_with (go_at_call 39; refine hcall.mono ?_; rintro e w3 ⟨rfl, hb3⟩)
      go_ret
      exact ⟨rfl, HB1.out.trans (hb3.mono HB1.out.size)⟩
    rw [if_neg k2] at hsh ⊢
    clear hb
    by_cases k3 : k = 3
    · subst k3
      rw [if_pos (.inl rfl)] at hsh
      rw [if_pos rfl]
      generalize hC : evalA fs vals = C
      have HC := Lib.hid hC
      have HSH := Lib.hid hsh
      clear hC hsh hv
      go_enter Try.func39, Try.ntmps39
      go_wp2_with fail
      go_loopw [32] (fun x wr => ∃ (i : Nat), i ≤ m ∧ x = .int .i64 i ∧ evalA (fs.drop i) vals = C ∧ Below w.heap.size w wr) (fun x _ => m - (intOf x).toNat)
      case atStart => exact ⟨0, Nat.zero_le _, rfl, by simpa using HC.out, (Below.refl _ _).alloc (Nat.le_refl _) _⟩
      case round =>
        obtain ⟨i, hi, rfl, hC, hbk⟩ := hrel
        by_cases hlt : i < m
        · have hf : fs[i]? = some fs[i] := List.getElem?_eq_getElem (by omega)
          have hss : ss[i]? = some ss[i] := List.getElem?_eq_getElem (by omega)
          have h0r : Below w0.heap.size w0 wr := HB0.out.trans (hbk.mono HB0.out.size)
          obtain ⟨b, off, rfl, x0, x1, x2, hbs⟩ := (HR.out.below h0r).f3 i hlt hf hss
          rw [drop_cons fs i _ hf, evalA] at hC
          generalize fs[i] = f at *
          generalize ss[i] = s at *
          obtain ⟨A', n', c', rfl⟩ := HSUB.out i s hss
          have hcall := HIH.out i f _ hf hss (wr.alloc (.cells #[.int .i64 f.k, .int .i64 f.a, .slice A' n' c'] 66)) f.k f.a (h0r.alloc h0r.size _) (by rw [f.eta]; exact shapeL_get fs n HSH.out i f hf)
          rw [f.eta] at hcall
          generalize evalF f vals = u at *
          have HCALL := Lib.hid hcall
          have HB := Lib.hid hbk
          clear hcall hbk hf hss h0r
          cases u with
          | true =>
            rw [Bool.true_and] at hC
            have HCC := Lib.hid hC
            clear hC
            go_wp2_with (go_at_call 39; refine HCALL.out.mono ?_; rintro e w3 ⟨rfl, hb3⟩)
            go_roundw
            case rel => exact ⟨i + 1, by omega, by go_num, HCC.out, (HB.out.alloc HB.out.size _).trans (hb3.mono (by have := HB.out.size; simp; omega))⟩
            case measure => simp [intOf]; omega
          | false =>
            rw [Bool.false_and] at hC
            subst hC
            go_wp2_with (go_at_call 39; refine HCALL.out.mono ?_; rintro e w3 ⟨rfl, hb3⟩)
            go_ret
            exact ⟨rfl, (HB.out.alloc HB.out.size _).trans (hb3.mono (by have := HB.out.size; simp; omega))⟩
        · obtain rfl : i = m := by omega
          rw [List.drop_of_length_le (by omega), evalA] at hC
          subst hC
          go_wp2_with fail
          go_ret
          exact ⟨rfl, hbk⟩
    rw [if_neg k3]
    by_cases k4 : k = 4
    · subst k4
      rw [if_pos (.inr rfl)] at hsh
      rw [if_pos rfl]
      generalize hC : evalO fs vals = C
      have HC := Lib.hid hC
      have HSH := Lib.hid hsh
      clear hC hsh hv
      go_enter Try.func39, Try.ntmps39
      go_wp2_with fail
      go_loopw [46] (fun x wr => ∃ (i : Nat), i ≤ m ∧ x = .int .i64 i ∧ evalO (fs.drop i) vals = C ∧ Below w.heap.size w wr) (fun x _ => m - (intOf x).toNat)
      case atStart => exact ⟨0, Nat.zero_le _, rfl, by simpa using HC.out, (Below.refl _ _).alloc (Nat.le_refl _) _⟩
      case round =>
        obtain ⟨i, hi, rfl, hC, hbk⟩ := hrel
        by_cases hlt : i < m
        · have hf : fs[i]? = some fs[i] := List.getElem?_eq_getElem (by omega)
          have hss : ss[i]? = some ss[i] := List.getElem?_eq_getElem (by omega)
          have h0r : Below w0.heap.size w0 wr := HB0.out.trans (hbk.mono HB0.out.size)
          obtain ⟨b, off, rfl, x0, x1, x2, hbs⟩ := (HR.out.below h0r).f3 i hlt hf hss
          rw [drop_cons fs i _ hf, evalO] at hC
          generalize fs[i] = f at *
          generalize ss[i] = s at *
          obtain ⟨A', n', c', rfl⟩ := HSUB.out i s hss
          have hcall := HIH.out i f _ hf hss (wr.alloc (.cells #[.int .i64 f.k, .int .i64 f.a, .slice A' n' c'] 66)) f.k f.a (h0r.alloc h0r.size _) (by rw [f.eta]; exact shapeL_get fs n HSH.out i f hf)
          rw [f.eta] at hcall
          generalize evalF f vals = u at *
          have HCALL := Lib.hid hcall
          have HB := Lib.hid hbk
          clear hcall hbk hf hss h0r
          cases u with
          | false =>
            rw [Bool.false_or] at hC
            have HCC := Lib.hid hC
            clear hC
            go_wp2_with (go_at_call 39; refine HCALL.out.mono ?_; rintro e w3 ⟨rfl, hb3⟩)
            go_roundw
            case rel => exact ⟨i + 1, by omega, by go_num, HCC.out, (HB.out.alloc HB.out.size _).trans (hb3.mono (by have := HB.out.size; simp; omega))⟩
            case measure => simp [intOf]; omega
          | true =>
            rw [Bool.true_or] at hC
            subst hC
            go_wp2_with (go_at_call 39; refine HCALL.out.mono ?_; rintro e w3 ⟨rfl, hb3⟩)
            go_ret
            exact ⟨rfl, (HB.out.alloc HB.out.size _).trans (hb3.mono (by have := HB.out.size; simp; omega))⟩
        · obtain rfl : i = m := by omega
          rw [List.drop_of_length_le (by omega), evalO] at hC
          subst hC
          go_wp2_with fail
          go_ret
          exact ⟨rfl, hbk⟩
    · simp only [k3, k4, or_self, if_false] at hsh
      cases hsh
end Go.Proofs.Ytbcabcdgblmnkaa
