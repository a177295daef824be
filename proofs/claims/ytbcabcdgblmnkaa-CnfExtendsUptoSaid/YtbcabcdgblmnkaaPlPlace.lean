/- Contract of package logic: place. -/
import Derived.Test.YtbcabcdgblmnkaaPlMath
import Derived.Deep.DeepCutAuto
namespace Go.Proofs.Ytbcabcdgblmnkaa
open Go.RowKit
set_option linter.unusedVariables false
set_option linter.unusedSimpArgs false

/-- a table that lies at B or behind it, since the world w. -/
structure PSt (B : Nat) (w wr : World) (tb mb : Nat) (tv tv' : Value) (ns : List Nd) : Prop where
  tab : Tab wr tb mb tv' ns
  le : ∀ b, TS tb mb tv' b → B ≤ b
  fr : Fr (TS tb mb tv) w wr
  own : ∀ b, tv'.ownBlock = some b → tv.ownBlock = some b ∨ w.heap.size ≤ b
section
variable {B : Nat} {w wr w2 : World} {tb mb : Nat} {tv tv' : Value} {ns ns2 : List Nd}
theorem PSt.start (ht : Tab w tb mb tv ns) (hl : ∀ b, TS tb mb tv b → B ≤ b) : PSt B w w tb mb tv tv ns := ⟨ht, hl, Fr.refl _ _, fun _ hb => .inl hb⟩
theorem PSt.below (h : PSt B w wr tb mb tv tv' ns) (hb : Below wr.heap.size wr w2) : PSt B w w2 tb mb tv tv' ns :=
  ⟨h.tab.below hb, h.le, h.fr.trans (Fr.of_below (S := fun _ => False) hb) (fun _ hb => hb.elim), h.own⟩
theorem PSt.after (h : PSt B w wr tb mb tv tv' ns) (hB : B ≤ w.heap.size) (ha : After wr w2 tb mb tv' ns2) : ∃ tv2, PSt B w w2 tb mb tv tv2 ns2 := by
  obtain ⟨tv2, ht, hf, hn⟩ := ha
  have hs := h.fr.size
  refine ⟨tv2, ht, fun b hb => ?_, h.fr.trans hf (fun b hb => ?_), fun b hb => ?_⟩
  · rcases hb with rfl | rfl | hb
    · exact h.le _ (.inl rfl)
    · exact h.le _ (.inr (.inl rfl))
    · rcases hn b hb with h' | h'
      · exact h.le b (.inr (.inr h'))
      · omega
  · rcases hb with rfl | rfl | hb
    · exact .inl (.inl rfl)
    · exact .inl (.inr (.inl rfl))
    · rcases h.own b hb with h' | h'
      · exact .inl (.inr (.inr h'))
      · exact .inr h'
  · rcases hn b hb with h' | h'
    · exact h.own b h'
    · exact .inr (by omega)
theorem PSt.done (h : PSt B w wr tb mb tv tv' ns) : After w wr tb mb tv ns := ⟨tv', h.tab, h.fr, h.own⟩
theorem PSt.bel (h : PSt B w wr tb mb tv tv' ns) (hB : B ≤ w.heap.size) (hl : ∀ b, TS tb mb tv b → B ≤ b) : Below B w wr := h.fr.below hB hl
end

set_option maxRecDepth 100000 in
set_option maxHeartbeats 4000000 in
theorem place_any {w0 : World} {fs : List Fm} {sv : Value} (h : FIn w0 fs sv) : ∀ (w : World) (k a n : Int) (tb mb : Nat) (tv : Value) (ns : List Nd), Below w0.heap.size w0 w → shapeF (.mk k a fs) n = true → Tab w tb mb tv ns → (∀ b, TS tb mb tv b → w0.heap.size ≤ b) → Good ns →
    Calls Try.prog 70 #[.pointer (some ⟨tb, 0, none⟩), .agg #[.int .i64 k, .int .i64 a, sv]] w fun e w' => e = .returned (.int .i64 ((placeF (.mk k a fs) ns).2 : Nat)) ∧ After w w' tb mb tv (placeF (.mk k a fs) ns).1 := by
  induction h with
  | mk A m c fs ss hl hs hnc hc hr hsub ih =>
    intro w k a n tb mb tv ns hb hsh ht hle hg
    unfold maxLen at hc
    rw [shapeF, hl] at hsh
    rw [placeF]
    have hb1 : Below w.heap.size w (w.alloc (.cells #[.int .i64 k, .int .i64 a, .slice A m c] 58)) := (Below.refl _ _).alloc (Nat.le_refl _) _
    have hst : PSt w0.heap.size w (w.alloc (.cells #[.int .i64 k, .int .i64 a, .slice A m c] 58)) tb mb tv tv ns := (PSt.start ht hle).below hb1
    have hB := hb.size
    have h01 : Below w0.heap.size w0 (w.alloc (.cells #[.int .i64 k, .int .i64 a, .slice A m c] 58)) := hb.alloc hb.size _
    have hfm : ∀ (i : Nat) (s : Value), ss[i]? = some s → ∃ A n c, s = Value.slice A n c := fun i s hi => by
      have hlt := (List.getElem?_eq_some_iff.1 hi).1
      obtain ⟨A', c', e, _⟩ := (hsub i _ s (List.getElem?_eq_getElem (by omega)) hi).form
      exact ⟨A', _, c', e⟩
    have HSUB := Lib.hid hfm
    have HIH := Lib.hid ih
    have HB := Lib.hid hb
    have HLE := Lib.hid hle
    clear ih hsub hb hfm ht hle hb1
    by_cases k1 : k = 1
    · subst k1
      rw [if_pos rfl]
      have hdo := do_any tb mb tv ns ⟨3, a, 0⟩ _ hst.tab hg.neg
      unfold dAns
      generalize doN ns ⟨3, a, 0⟩ = D at *
      obtain ⟨ns', q⟩ := D
      simp only [ansV] at hdo
      have HST := Lib.hid hst
      clear hr HSUB HIH hst hsh h01 hg
      go_enter Try.func70, Try.ntmps70
      go_wp2_with (go_at_call 88; refine hdo.mono ?_; rintro e w' ⟨rfl, haft⟩)
      go_ret
      exact ⟨rfl, by obtain ⟨_, h⟩ := HST.out.after hB haft; exact h.done⟩
    rw [if_neg k1] at hsh ⊢
    by_cases k2 : k = 2
    · subst k2
      rw [if_neg (by decide), if_pos rfl, Bool.and_eq_true, decide_eq_true_eq] at hsh
      rw [if_pos rfl]
      obtain ⟨hm, hsh⟩ := hsh
      subst hm
      obtain ⟨f, rfl⟩ : ∃ f, fs = [f] := List.length_eq_one_iff.1 hl
      obtain ⟨s, rfl⟩ : ∃ s, ss = [s] := List.length_eq_one_iff.1 hs
      obtain ⟨b, off, rfl, x0, x1, x2, hbs⟩ := (hr.below h01).f3 0 (by omega) (f := f) (s := s) rfl rfl
      simp only [Nat.zero_mul, Nat.add_zero] at x0 x1 x2
      obtain ⟨A', n', c', rfl⟩ := HSUB.out 0 s rfl
      have hcl := HIH.out 0 f _ rfl rfl _ f.k f.a n tb mb tv ns h01 (by rw [f.eta]; exact shapeL_get [f] n hsh 0 f rfl) hst.tab HLE.out hg
      have hgp := place_good f ns hg
      rw [f.eta] at hcl
      rw [placeN]
      generalize placeF f ns = p at *
      obtain ⟨ns1, i1⟩ := p
      simp only at hcl hgp ⊢
      have hdo := fun W tv1 (hT : Tab W tb mb tv1 ns1) => do_any tb mb tv1 ns1 ⟨4, i1, 0⟩ W hT hgp.neg
      unfold dAns
      generalize doN ns1 ⟨4, i1, 0⟩ = D at *
      obtain ⟨ns', q⟩ := D
      simp only [ansV] at hdo
      obtain ⟨W, hW⟩ : ∃ W, W = w.alloc (.cells #[.int .i64 2, .int .i64 a, .slice (some ⟨b, off, none⟩) 1 c] 58) := ⟨_, rfl⟩
      have z2 : W.cell? ⟨w.heap.size, 2, none⟩ = some (.slice (some ⟨b, off, none⟩) 1 c) := by rw [hW]; simp
      rw [← hW] at x0 x1 x2 h01 hcl hst
      have HST := Lib.hid hst
      have HCL := Lib.hid hcl
      have HDO := Lib.hid hdo
      have HX := Lib.hid (And.intro x0 (And.intro x1 (And.intro x2 z2)))
      clear hr HSUB HIH hst hsh h01 hg hcl hdo hgp x0 x1 x2 z2
      go_enter Try.func70, Try.ntmps70
      go_upto_region 7 with fail
      rw [← hW]
      obtain ⟨x0, x1, x2, x3⟩ := HX.out
      clear hW HX
      go_wp2_with (first | (go_at_call 70; refine HCL.out.mono ?_; rintro e w3 ⟨rfl, ha3⟩; obtain ⟨tv3, h3⟩ := HST.out.after hB ha3; have HS3 := Lib.hid h3; clear h3 ha3) | (go_at_call 88; refine (HDO.out _ _ HS3.out.tab).mono ?_; rintro e w4 ⟨rfl, ha4⟩))
      go_ret
      exact ⟨rfl, by obtain ⟨_, h⟩ := HS3.out.after hB ha4; exact h.done⟩
    rw [if_neg k2]
    by_cases k6 : k = 6
    · subst k6
      rw [if_pos rfl]
      have HST := Lib.hid hst
      clear hr HSUB HIH hst hsh h01 hg
      go_enter Try.func70, Try.ntmps70
      go_wp2_with fail
      go_ret
      exact ⟨rfl, HST.out.done⟩
    rw [if_neg k6]
    have hshL : shapeL fs n = true ∧ (k = 3 ∨ k = 4 ∨ k = 5) := by
      by_cases k5 : k = 5
      · rw [if_pos (.inl k5), decide_eq_true_eq] at hsh
        have hsub : fs = [] := List.eq_nil_of_length_eq_zero (by omega)
        rw [hsub, shapeL]
        exact ⟨rfl, .inr (.inr k5)⟩
      · rw [if_neg (by omega), if_neg k2] at hsh
        by_cases k34 : k = 3 ∨ k = 4
        · rw [if_pos k34] at hsh; exact ⟨hsh, by omega⟩
        · rw [if_neg k34] at hsh; cases hsh
    clear hsh
    obtain ⟨hshL, hkk⟩ := hshL
    have main : ∀ (kind : Int) (n0 : Nat), kind = 5 ∧ n0 = 1 ∧ k = 3 ∨ kind = 5 ∧ n0 = 1 ∧ k = 5 ∨ kind = 6 ∧ n0 = 0 ∧ k = 4 → Calls Try.prog 70 #[.pointer (some ⟨tb, 0, none⟩), .agg #[.int .i64 k, .int .i64 a, .slice A m c]] w fun e w' =>
        e = .returned (.int .i64 ((placeL fs kind ns n0).2 : Nat)) ∧ After w w' tb mb tv (placeL fs kind ns n0).1 := by
      intro kind n0 hk
      generalize hR : placeL fs kind ns n0 = R
      have HST := Lib.hid hst
      have HG := Lib.hid hg
      have HSH := Lib.hid hshL
      have HR := Lib.hid hr
      have HRR := Lib.hid hR
      have H01 := Lib.hid h01
      clear hst hg hshL hr hR h01
      rcases hk with ⟨rfl, rfl, rfl⟩ | ⟨rfl, rfl, rfl⟩ | ⟨rfl, rfl, rfl⟩
      · go_enter Try.func70, Try.ntmps70
        go_wp2_with fail
        go_loopw [6, 44] (fun y x wr => ∃ (i n' : Nat) (ns' : List Nd) (tv' : Value), i ≤ m ∧ x = .int .i64 i ∧ y = .int .i64 n' ∧ placeL (fs.drop i) 5 ns' n' = R ∧ Good ns' ∧ PSt w0.heap.size w wr tb mb tv tv' ns') (fun _ x _ => m - (intOf x).toNat)
        case atStart => exact ⟨0, 1, ns, tv, Nat.zero_le _, rfl, rfl, by rw [List.drop_zero]; exact HRR.out, HG.out, HST.out⟩
        case round =>
          obtain ⟨i, n', ns', tv', hi, rfl, rfl, hC, hg', hst'⟩ := hrel
          by_cases hlt : i < m
          · have hf : fs[i]? = some fs[i] := List.getElem?_eq_getElem (by omega)
            have hss : ss[i]? = some ss[i] := List.getElem?_eq_getElem (by omega)
            have h0r : Below w0.heap.size w0 wr := HB.out.trans (hst'.bel hB HLE.out)
            obtain ⟨b, off, rfl, x0, x1, x2, hbs⟩ := (HR.out.below h0r).f3 i hlt hf hss
            have hshf := shapeL_get fs n HSH.out i _ hf
            rw [drop_cons fs i _ hf, placeL] at hC
            generalize fs[i] = f at *
            generalize ss[i] = s at *
            obtain ⟨A', n1, c', rfl⟩ := HSUB.out i s hss
            have hst1 := hst'.below ((Below.refl wr.heap.size wr).alloc (Nat.le_refl _) (.cells #[.int .i64 f.k, .int .i64 f.a, .slice A' n1 c'] 58))
            have hcl := HIH.out i f _ hf hss _ f.k f.a n tb mb tv' ns' (h0r.alloc h0r.size (.cells #[.int .i64 f.k, .int .i64 f.a, .slice A' n1 c'] 58)) (by rw [f.eta]; exact hshf) hst1.tab hst'.le hg'
            have hgp := place_good f ns' hg'
            rw [f.eta] at hcl
            generalize placeF f ns' = p at *
            obtain ⟨ns1, i1⟩ := p
            simp only at hcl hgp hC
            have hdo := fun W tv1 (hT : Tab W tb mb tv1 ns1) => do_any tb mb tv1 ns1 ⟨5, n', i1⟩ W hT hgp.neg
            have hgd := hgp.doN ⟨5, n', i1⟩
            unfold dAns at hC
            generalize doN ns1 ⟨5, n', i1⟩ = D at *
            obtain ⟨ns2, q⟩ := D
            simp only [ansV] at hdo hgd hC
            have HST1 := Lib.hid hst1
            have HCL := Lib.hid hcl
            have HDO := Lib.hid hdo
            have HGD := Lib.hid hgd
            have HCC := Lib.hid hC
            clear hcl hdo hgd hC hst1 hst' hg' hgp h0r hf hss hshf
            go_wp2_with (first | (go_at_call 70; refine HCL.out.mono ?_; rintro e w3 ⟨rfl, ha3⟩; obtain ⟨tv3, h3⟩ := HST1.out.after hB ha3; have HS3 := Lib.hid h3; clear h3 ha3) | (go_at_call 88; refine (HDO.out _ _ HS3.out.tab).mono ?_; rintro e w4 ⟨rfl, ha4⟩; obtain ⟨tv4, h4⟩ := HS3.out.after hB ha4; have HS4 := Lib.hid h4; clear h4 ha4))
            go_roundw
            case rel => exact ⟨i + 1, q.getD 0, ns2, tv4, by omega, by go_num, rfl, HCC.out, HGD.out, HS4.out⟩
            case measure => simp [intOf]; omega
          · obtain rfl : i = m := by omega
            rw [List.drop_of_length_le (by omega), placeL] at hC
            subst hC
            have HS4 := Lib.hid hst'
            clear hst' hg'
            go_wp2_with fail
            go_ret
            exact ⟨rfl, HS4.out.done⟩
      · go_enter Try.func70, Try.ntmps70
        go_wp2_with fail
        go_loopw [6, 44] (fun y x wr => ∃ (i n' : Nat) (ns' : List Nd) (tv' : Value), i ≤ m ∧ x = .int .i64 i ∧ y = .int .i64 n' ∧ placeL (fs.drop i) 5 ns' n' = R ∧ Good ns' ∧ PSt w0.heap.size w wr tb mb tv tv' ns') (fun _ x _ => m - (intOf x).toNat)
        case atStart => exact ⟨0, 1, ns, tv, Nat.zero_le _, rfl, rfl, by rw [List.drop_zero]; exact HRR.out, HG.out, HST.out⟩
        case round =>
          obtain ⟨i, n', ns', tv', hi, rfl, rfl, hC, hg', hst'⟩ := hrel
          by_cases hlt : i < m
          · have hf : fs[i]? = some fs[i] := List.getElem?_eq_getElem (by omega)
            have hss : ss[i]? = some ss[i] := List.getElem?_eq_getElem (by omega)
            have h0r : Below w0.heap.size w0 wr := HB.out.trans (hst'.bel hB HLE.out)
            obtain ⟨b, off, rfl, x0, x1, x2, hbs⟩ := (HR.out.below h0r).f3 i hlt hf hss
            have hshf := shapeL_get fs n HSH.out i _ hf
            rw [drop_cons fs i _ hf, placeL] at hC
            generalize fs[i] = f at *
            generalize ss[i] = s at *
            obtain ⟨A', n1, c', rfl⟩ := HSUB.out i s hss
            have hst1 := hst'.below ((Below.refl wr.heap.size wr).alloc (Nat.le_refl _) (.cells #[.int .i64 f.k, .int .i64 f.a, .slice A' n1 c'] 58))
            have hcl := HIH.out i f _ hf hss _ f.k f.a n tb mb tv' ns' (h0r.alloc h0r.size (.cells #[.int .i64 f.k, .int .i64 f.a, .slice A' n1 c'] 58)) (by rw [f.eta]; exact hshf) hst1.tab hst'.le hg'
            have hgp := place_good f ns' hg'
            rw [f.eta] at hcl
            generalize placeF f ns' = p at *
            obtain ⟨ns1, i1⟩ := p
            simp only at hcl hgp hC
            have hdo := fun W tv1 (hT : Tab W tb mb tv1 ns1) => do_any tb mb tv1 ns1 ⟨5, n', i1⟩ W hT hgp.neg
            have hgd := hgp.doN ⟨5, n', i1⟩
            unfold dAns at hC
            generalize doN ns1 ⟨5, n', i1⟩ = D at *
            obtain ⟨ns2, q⟩ := D
            simp only [ansV] at hdo hgd hC
            have HST1 := Lib.hid hst1
            have HCL := Lib.hid hcl
            have HDO := Lib.hid hdo
            have HGD := Lib.hid hgd
            have HCC := Lib.hid hC
            clear hcl hdo hgd hC hst1 hst' hg' hgp h0r hf hss hshf
            go_wp2_with (first | (go_at_call 70; refine HCL.out.mono ?_; rintro e w3 ⟨rfl, ha3⟩; obtain ⟨tv3, h3⟩ := HST1.out.after hB ha3; have HS3 := Lib.hid h3; clear h3 ha3) | (go_at_call 88; refine (HDO.out _ _ HS3.out.tab).mono ?_; rintro e w4 ⟨rfl, ha4⟩; obtain ⟨tv4, h4⟩ := HS3.out.after hB ha4; have HS4 := Lib.hid h4; clear h4 ha4))
            go_roundw
            case rel => exact ⟨i + 1, q.getD 0, ns2, tv4, by omega, by go_num, rfl, HCC.out, HGD.out, HS4.out⟩
            case measure => simp [intOf]; omega
          · obtain rfl : i = m := by omega
            rw [List.drop_of_length_le (by omega), placeL] at hC
            subst hC
            have HS4 := Lib.hid hst'
            clear hst' hg'
            go_wp2_with fail
            go_ret
            exact ⟨rfl, HS4.out.done⟩
      · go_enter Try.func70, Try.ntmps70
        go_wp2_with fail
        go_loopw [6, 44] (fun y x wr => ∃ (i n' : Nat) (ns' : List Nd) (tv' : Value), i ≤ m ∧ x = .int .i64 i ∧ y = .int .i64 n' ∧ placeL (fs.drop i) 6 ns' n' = R ∧ Good ns' ∧ PSt w0.heap.size w wr tb mb tv tv' ns') (fun _ x _ => m - (intOf x).toNat)
        case atStart => exact ⟨0, 0, ns, tv, Nat.zero_le _, rfl, rfl, by rw [List.drop_zero]; exact HRR.out, HG.out, HST.out⟩
        case round =>
          obtain ⟨i, n', ns', tv', hi, rfl, rfl, hC, hg', hst'⟩ := hrel
          by_cases hlt : i < m
          · have hf : fs[i]? = some fs[i] := List.getElem?_eq_getElem (by omega)
            have hss : ss[i]? = some ss[i] := List.getElem?_eq_getElem (by omega)
            have h0r : Below w0.heap.size w0 wr := HB.out.trans (hst'.bel hB HLE.out)
            obtain ⟨b, off, rfl, x0, x1, x2, hbs⟩ := (HR.out.below h0r).f3 i hlt hf hss
            have hshf := shapeL_get fs n HSH.out i _ hf
            rw [drop_cons fs i _ hf, placeL] at hC
            generalize fs[i] = f at *
            generalize ss[i] = s at *
            obtain ⟨A', n1, c', rfl⟩ := HSUB.out i s hss
            have hst1 := hst'.below ((Below.refl wr.heap.size wr).alloc (Nat.le_refl _) (.cells #[.int .i64 f.k, .int .i64 f.a, .slice A' n1 c'] 58))
            have hcl := HIH.out i f _ hf hss _ f.k f.a n tb mb tv' ns' (h0r.alloc h0r.size (.cells #[.int .i64 f.k, .int .i64 f.a, .slice A' n1 c'] 58)) (by rw [f.eta]; exact hshf) hst1.tab hst'.le hg'
            have hgp := place_good f ns' hg'
            rw [f.eta] at hcl
            generalize placeF f ns' = p at *
            obtain ⟨ns1, i1⟩ := p
            simp only at hcl hgp hC
            have hdo := fun W tv1 (hT : Tab W tb mb tv1 ns1) => do_any tb mb tv1 ns1 ⟨6, n', i1⟩ W hT hgp.neg
            have hgd := hgp.doN ⟨6, n', i1⟩
            unfold dAns at hC
            generalize doN ns1 ⟨6, n', i1⟩ = D at *
            obtain ⟨ns2, q⟩ := D
            simp only [ansV] at hdo hgd hC
            have HST1 := Lib.hid hst1
            have HCL := Lib.hid hcl
            have HDO := Lib.hid hdo
            have HGD := Lib.hid hgd
            have HCC := Lib.hid hC
            clear hcl hdo hgd hC hst1 hst' hg' hgp h0r hf hss hshf
            go_wp2_with (first | (go_at_call 70; refine HCL.out.mono ?_; rintro e w3 ⟨rfl, ha3⟩; obtain ⟨tv3, h3⟩ := HST1.out.after hB ha3; have HS3 := Lib.hid h3; clear h3 ha3) | (go_at_call 88; refine (HDO.out _ _ HS3.out.tab).mono ?_; rintro e w4 ⟨rfl, ha4⟩; obtain ⟨tv4, h4⟩ := HS3.out.after hB ha4; have HS4 := Lib.hid h4; clear h4 ha4))
            go_roundw
            case rel => exact ⟨i + 1, q.getD 0, ns2, tv4, by omega, by go_num, rfl, HCC.out, HGD.out, HS4.out⟩
            case measure => simp [intOf]; omega
          · obtain rfl : i = m := by omega
            rw [List.drop_of_length_le (by omega), placeL] at hC
            subst hC
            have HS4 := Lib.hid hst'
            clear hst' hg'
            go_wp2_with fail
            go_ret
            exact ⟨rfl, HS4.out.done⟩
    rcases hkk with k4 | k4 | k4
    · rw [if_neg (by omega)]
      exact main 5 1 (.inl ⟨rfl, rfl, k4⟩)
    · rw [if_pos k4]
      exact main 6 0 (.inr (.inr ⟨rfl, rfl, k4⟩))
    · rw [if_neg (by omega)]
      exact main 5 1 (.inr (.inl ⟨rfl, rfl, k4⟩))
end Go.Proofs.Ytbcabcdgblmnkaa

namespace Go.Proofs.Ytbcabcdgblmnkaa
open Go.RowKit
set_option linter.unusedVariables false
set_option linter.unusedSimpArgs false

theorem tnode_in (tb mb : Nat) (sv : Value) (ns : List Nd) (i : Nat) (w : World) (h : Tab w tb mb sv ns) (hi : i < ns.length) :
    Calls Try.prog 72 #[.pointer (some ⟨tb, 0, none⟩), .int .i64 (i : Int)] w fun e w' => e = .returned (.tuple #[.agg #[.int .i64 (nd ns i).k, .int .i64 (nd ns i).a, .int .i64 (nd ns i).b], .bool true]) ∧ Below w.heap.size w w' := by
  have ht1 := h.below ((Below.refl _ _).alloc (Nat.le_refl _) (.cells #[.int .i64 0, .int .i64 0, .int .i64 0] 96))
  have L := len_old tb mb sv ns _ ht1
  have hi0 : ¬ (i : Int) < 0 := by omega
  have hi1 : ¬ (ns.length : Int) ≤ i := by omega
  have htb : tb < w.heap.size := lt_of_blk h.blk
  obtain ⟨g, cg, rfl, hg⟩ := h.form
  obtain ⟨c0, c1⟩ := h.cells
  obtain ⟨x0, x1, x2⟩ := h.node i hi
  rw [nd_get ns i hi]
  clear h c1 ht1
  generalize ns[i] = X at *
  obtain ⟨xk, xa, xb⟩ := X
  simp only at x0 x1 x2 ⊢
  have y0 := (World.cell?_alloc_lt w (.cells #[.int .i64 0, .int .i64 0, .int .i64 0] 96) ⟨g, i * 3, none⟩ hg).trans x0
  have y1 := (World.cell?_alloc_lt w (.cells #[.int .i64 0, .int .i64 0, .int .i64 0] 96) ⟨g, i * 3 + 1, none⟩ hg).trans x1
  have y2 := (World.cell?_alloc_lt w (.cells #[.int .i64 0, .int .i64 0, .int .i64 0] 96) ⟨g, i * 3 + 2, none⟩ hg).trans x2
  have d0 := (World.cell?_alloc_lt w (.cells #[.int .i64 0, .int .i64 0, .int .i64 0] 96) ⟨tb, 0, none⟩ htb).trans c0
  clear x0 x1 x2 c0
  go_enter Try.func72, Try.ntmps72
  go_wp2_with (go_at_call 71; refine L.mono ?_; rintro e w' ⟨rfl, rfl⟩)
  refine bodyPost_ret (v := .tuple #[.agg #[.int .i64 xk, .int .i64 xa, .int .i64 xb], .bool true]) (by simp [results, Try.results72, go_sem]) rfl ?_
  exact ⟨rfl, (Below.refl _ _).alloc (Nat.le_refl _) _⟩

theorem bstepP {w W W1 : World} (h : Below w.heap.size w W) (h' : Below W.heap.size W W1) : Below w.heap.size w W1 := h.trans (h'.mono h.size)
/-- what Intern answers beside the error. -/
def internP (f : Fm) (n : Int) : Nat × List Nd := if checkF f n = 0 then ((placeF f ns0).2, (placeF f ns0).1) else (0, [])
theorem take_snoc (ns : List Nd) (i : Nat) (h : i < ns.length) : ndCells (ns.take (i + 1)) = ndCells (ns.take i) ++ [.int .i64 (nd ns i).k, .int .i64 (nd ns i).a, .int .i64 (nd ns i).b] := by
  rw [List.take_add_one, List.getElem?_eq_getElem h, ndCells_append, nd_get ns i h]
  rfl

set_option maxRecDepth 100000 in
set_option maxHeartbeats 4000000 in
theorem intern_any {w0 : World} {fs : List Fm} {sv : Value} (h : FIn w0 fs sv) (w : World) (k a n : Int) (hb : Below w0.heap.size w0 w) :
    Calls Try.prog 51 #[.agg #[.int .i64 k, .int .i64 a, sv], .int .i64 n] w fun e w' => ∃ v, e = .returned (.tuple #[.int .i64 ((internP (.mk k a fs) n).1 : Nat), v, .int .i64 (checkF (.mk k a fs) n)]) ∧
      w'.ownsRow w.heap.size 96 3 v (internP (.mk k a fs) n).2.length (ndCells (internP (.mk k a fs) n).2) ∧ Below w.heap.size w w' := by
  obtain ⟨i0, hi, hz0, hz1, hz2⟩ := info_parts info_node
  have hb1 : Below w.heap.size w (w.alloc (.cells #[.int .i64 k, .int .i64 a, sv] 58)) := (Below.refl _ _).alloc (Nat.le_refl _) _
  have hck := check_any h (w.alloc (.cells #[.int .i64 k, .int .i64 a, sv] 58)) k a n (hb.trans (hb1.mono hb.size))
  have hpl := fun (hC : checkF (.mk k a fs) n = 0) W tb mb tv ns hW hT hle hg => place_any h W k a n tb mb tv ns hW (checkF_great hC).2 hT hle hg
  unfold internP
  obtain ⟨A, c, rfl, _, _⟩ := h.form
  have hbox := heap_alloc_new w (.cells #[.int .i64 k, .int .i64 a, .slice A fs.length c] 58)
  generalize checkF (.mk k a fs) n = C at *
  by_cases hC : C = 0
  · subst hC
    rw [if_pos rfl]
    have hpl2 := fun W tb mb tv hW hT hle => hpl rfl W tb mb tv ns0 hW hT hle good0
    clear hpl
    generalize placeF (.mk k a fs) ns0 = p at *
    obtain ⟨ns, root⟩ := p
    simp only at hpl2 ⊢
    have HPL := Lib.hid hpl2
    have HB := Lib.hid hb
    have HB1 := Lib.hid hb1
    have HBX := Lib.hid hbox
    clear hpl2 hb hb1 h hbox
    go_enter Try.func51, Try.ntmps51
    go_wp2_with (first | (go_at_call 68; refine hck.mono ?_; rintro e w1 ⟨rfl, hb2⟩; have hbk := bstepP HB1.out hb2; have HB2 := Lib.hid hbk; have hbx1 := (hb2.block _ (lt_of_blk HBX.out)).trans HBX.out; have HBX1 := Lib.hid hbx1; clear hb2 hbx1 hbk hck) | (go_at_call 69; refine (new_tab w1).mono ?_; rintro e w2 ⟨rfl, tv, mb, ht2, hb3, hmb, htv⟩; have hbx2 := (hb3.block _ (lt_of_blk HBX1.out)).trans HBX1.out; have x0 := cell_of_blk hbx2 0; have x1 := cell_of_blk hbx2 1; have x2 := cell_of_blk hbx2 2; simp at x0 x1 x2; have HB3 := Lib.hid (bstepP HB2.out hb3); have HPL2 := Lib.hid (HPL.out w2 w1.heap.size mb tv (HB.out.trans (HB3.out.mono HB.out.size)) ht2 (by have h1 := HB.out.size; have h2 := HB2.out.size; intro b hb; rcases hb with rfl | rfl | hb; omega; omega; have := htv b hb; omega)); have HBW := Lib.hid hb3; have HTV := Lib.hid (And.intro hmb htv); clear hb3 hbx2 ht2 hmb htv) | (go_at_call 70; refine HPL2.out.mono ?_; rintro e w3 ⟨rfl, tv3, ht3, hf3, ho3⟩; have hb23 : Below w1.heap.size w2 w3 := hf3.below HBW.out.size (by intro b hb; rcases hb with rfl | rfl | hb; exact Nat.le_refl _; exact HTV.out.1; exact HTV.out.2 b hb); have HB4 := Lib.hid (HB2.out.trans ((HBW.out.trans hb23).mono HB2.out.size)); have HT3 := Lib.hid ht3; clear hf3 ho3 hb23 ht3) | (go_at_call 71; refine (len_old _ _ _ _ _ HT3.out).mono ?_; rintro e w' ⟨rfl, hw⟩; obtain rfl := hw.symm))
    have hmost := HT3.out.most
    go_loopw [10, 26] (fun y x wr => ∃ (i : Nat), i ≤ ns.length ∧ x = .int .i64 i ∧ wr.ownsRow w3.heap.size 96 3 y i (ndCells (ns.take i)) ∧ Below w3.heap.size w3 wr) (fun _ x _ => ns.length - (intOf x).toNat)
    case atStart => exact ⟨0, Nat.zero_le _, rfl, World.ownsRow_nil _ _ _ _, Below.refl _ _⟩
    case round =>
      obtain ⟨i, hi', rfl, hown, hbk⟩ := hrel
      by_cases hlt : i < ns.length
      · have hnode := tnode_in _ _ _ ns i wr (HT3.out.below hbk) hlt
        have hsn := take_snoc ns i hlt
        generalize nd ns i = X at *
        obtain ⟨xk, xa, xb⟩ := X
        simp only at hnode hsn
        have HSN := Lib.hid hsn
        have HOWN := Lib.hid hown
        clear hsn hown
        go_upto_region 11 with (go_at_call 72; refine hnode.mono ?_; rintro e w4 ⟨rfl, hb4⟩; have HB4' := Lib.hid hb4; clear hb4)
        have hb5 := HB4'.out.alloc HB4'.out.size (.cells #[.int .i64 xk, .int .i64 xa, .int .i64 xb] 96)
        have hn5 := heap_alloc_new w4 (.cells #[.int .i64 xk, .int .i64 xa, .int .i64 xb] 96)
        obtain ⟨W5, hW5⟩ : ∃ W5, W5 = w4.alloc (.cells #[.int .i64 xk, .int .i64 xa, .int .i64 xb] 96) := ⟨_, rfl⟩
        rw [← hW5] at hb5 hn5 ⊢
        clear hW5
        have z0 := cell_of_blk hn5 0
        have z1 := cell_of_blk hn5 1
        have z2 := cell_of_blk hn5 2
        simp at z0 z1 z2
        have hw5 := (own_more (own_below HOWN.out hb5) (Nat.zero_le _) : W5.ownsRow 0 _ _ _ _ _)
        have HB5 := Lib.hid hb5
        have HW5 := Lib.hid hw5
        clear hb5 hn5 hw5 hnode
        go_wp2_with (refine appS W5 3 #[.int .i64 xk, .int .i64 xa, .int .i64 xb] 96 rfl (.tmp 35) (.tmp 37) 88 rfl i0 _ 24 Try.underlying88 hi hz0 hz1 hz2 rfl (by decide) (by decide) rfl u10 i (ndCells (ns.take i)) rfl HW5.out rfl (by intro u hu; simp at hu; rcases hu with rfl | rfl | rfl <;> rfl) (by omega) ?_; intro v6 w6 hown6 hfr6 hbk6)
        have hs3 : w3.heap.size ≤ W5.heap.size := Nat.le_trans hbk.size HB5.out.size
        have hob : ∀ b, u10.ownBlock = some b → w3.heap.size ≤ b := fun b hb => (own_lt HOWN.out hb).1
        have h6 := own_base hown6 (B := w3.heap.size) (fun b hb => by
          rcases hbk6 with e | e
          · rw [e] at hb; exact hob b hb
          · rw [e] at hb; injection hb with hb; omega)
        refine ⟨⟨i + 1, by omega, by go_num, by rw [HSN.out]; exact h6, ?_⟩, by simp [intOf]; omega⟩
        exact (hbk.trans (HB5.out.mono hbk.size)).trans (hfr6.below hs3 hob)
      · obtain rfl : i = ns.length := by omega
        rw [List.take_length] at hown
        have HOWN := Lib.hid hown
        clear hown
        go_wp2_with fail
        go_ret3
        exact ⟨_, rfl, own_more HOWN.out HB4.out.size, bstepP HB4.out hbk⟩
  · rw [if_neg hC]
    have hC' : (C == 0) = false := by simpa using hC
    clear hpl hb h
    go_enter Try.func51, Try.ntmps51
    go_wp2_with (go_at_call 68; refine hck.mono ?_; rintro e w1 ⟨rfl, hb2⟩)
    go_ret3
    exact ⟨_, rfl, World.ownsRow_nil _ _ _ _, bstepP hb1 hb2⟩
end Go.Proofs.Ytbcabcdgblmnkaa
