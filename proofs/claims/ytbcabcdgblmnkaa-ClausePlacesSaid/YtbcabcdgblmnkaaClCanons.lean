/- The law ClauseCanons. -/
import Derived.Test.YtbcabcdgblmnkaaClHolds
namespace Go.Proofs.Ytbcabcdgblmnkaa
open Go.RowKit
set_option linter.unusedVariables false
set_option linter.unusedSimpArgs false

theorem adj_iff (xs : List Int) (hs : StrictL xs) (hl : ∀ l ∈ xs, IsLit l) : adjB xs = true ↔ ∃ l, l ∈ xs ∧ -l ∈ xs := by
  induction xs with
  | nil => simp [adjB]
  | cons x xs ih =>
    have hs' := List.pairwise_cons.1 hs
    cases xs with
    | nil =>
      rw [adjB_one]
      constructor
      · intro h; cases h
      · rintro ⟨l, h1, h2⟩
        simp at h1 h2
        have := (hl x (by simp)).1
        omega
    | cons y ys =>
      rw [adjB_cons]
      by_cases hyx : y = -x
      · rw [if_pos hyx]
        exact ⟨fun _ => ⟨x, by simp, by rw [← hyx]; simp⟩, fun _ => rfl⟩
      · rw [if_neg hyx, ih hs'.2 (fun l h => hl l (by simp [h]))]
        constructor
        · rintro ⟨l, h1, h2⟩; exact ⟨l, by simp [h1], by simp [h2]⟩
        · rintro ⟨l, h1, h2⟩
          have hx0 := (hl x (by simp)).1
          have key : ∀ l, l ∈ x :: y :: ys → -l = x → False := by
            intro l h1 e
            have hxy := hs'.1 y (by simp)
            rw [ahd_iff] at hxy
            rcases List.mem_cons.1 h1 with h | h
            · omega
            · have hxl := hs'.1 l h
              rw [ahd_iff] at hxl
              rcases List.mem_cons.1 h with h | h
              · exact hyx (by omega)
              · have hyl := (List.pairwise_cons.1 hs'.2).1 l h
                rw [ahd_iff] at hyl
                omega
          rcases List.mem_cons.1 h1 with e | h1'
          · rcases List.mem_cons.1 h2 with e2 | h2'
            · omega
            · exact absurd (by omega : -(-l) = x) (fun e3 => key (-l) (List.mem_cons_of_mem _ h2') e3)
          · rcases List.mem_cons.1 h2 with e2 | h2'
            · exact absurd e2 (fun e3 => key l (List.mem_cons_of_mem _ h1') e3)
            · exact ⟨l, h1', h2'⟩
theorem always_eq (xs : List Int) (hl : ∀ l ∈ xs, IsLit l) : adjB (canonI xs) = xs.any (fun l => hasB xs (-l)) := by
  rw [Bool.eq_iff_iff, adj_iff _ (canonI_strict xs) (canon_lits hl), List.any_eq_true]
  simp only [hasB, decide_eq_true_eq, canonI_mem]
theorem within_eq (xs ys : List Int) : (canonI xs).all (fun l => hasB (canonI ys) l) = xs.all (fun l => hasB ys l) := by
  rw [Bool.eq_iff_iff, List.all_eq_true, List.all_eq_true]
  simp only [hasB, decide_eq_true_eq, canonI_mem]
theorem hasR (xs : List Int) (A : Option Addr) (c B : Nat) (l : Int) (w : World) (hs : xs.length ≤ 60) (h : RowI w B (.slice A xs.length c) xs) : Calls Try.prog 26 #[.slice A xs.length c, .int .i64 l] w fun e w' => e = .returned (.bool (hasB xs l)) ∧ w' = w :=
  has_any xs A xs.length c l w rfl (by unfold maxLen; omega) h.rd2.2.2

set_option maxRecDepth 100000 in
set_option maxHeartbeats 8000000 in
theorem canons_law {w : World} (A : Option Addr) (n c : Nat) (xs : List Int) (hl : xs.length = n) (hnc : n ≤ c) (hc : c * 8 ≤ 140737488351232) (hr : Rd w 1 A n (ints xs)) (hwf : ∀ x ∈ xs, (Lit.int .i64 x).wf = true)
    (A2 : Option Addr) (n2 c2 : Nat) (xs2 : List Int) (hl2 : xs2.length = n2) (hnc2 : n2 ≤ c2) (hc2 : c2 * 8 ≤ 140737488351232) (hr2 : Rd w 1 A2 n2 (ints xs2)) (hwf2 : ∀ x ∈ xs2, (Lit.int .i64 x).wf = true) :
    Calls Try.prog 7 #[.slice A n c, .slice A2 n2 c2] w fun e w' => e = .returned (.bool true) ∧ Below w.heap.size w w' := by
  have hf1 := few_row xs A n c w hl hnc hc hr
  have hf2 := fun w1 (hb : Below w.heap.size w w1) => few_row xs2 A2 n2 c2 w1 hl2 hnc2 hc2 (hr2.below hb)
  have hys := few_len xs
  have hyi := few_i64 (i64s xs hwf)
  have hzs := few_len xs2
  have hzi := few_i64 (i64s xs2 hwf2)
  generalize xs.take 60 = ys at *
  generalize xs2.take 60 = zs at *
  have hffy := fun v B W (h : RowI W B v ys) => few_again ys v B W hys h
  have hffz := fun v B W (h : RowI W B v zs) => few_again zs v B W hzs h
  have hgdy := fun A' c' B W (h : RowI W B (.slice A' ys.length c') ys) => goodR ys A' c' B W hys h
  have hgdz := fun A' c' B W (h : RowI W B (.slice A' zs.length c') zs) => goodR zs A' c' B W hzs h
  have hhsy := fun A' c' B l W (h : RowI W B (.slice A' ys.length c') ys) => hasR ys A' c' B l W hys h
  have hhsz := fun A' c' B l W (h : RowI W B (.slice A' zs.length c') zs) => hasR zs A' c' B l W hzs h
  have hcan := fun A' c' B W (h : RowI W B (.slice A' ys.length c') ys) => canon_any ys A' ys.length c' W rfl h.rd2.1 (by omega) h.rd2.2.2 hyi
  have halw := fun A' c' B W (h : RowI W B (.slice A' ys.length c') ys) => always_any ys A' ys.length c' W rfl h.rd2.1 (by omega) h.rd2.2.2 hyi
  have hwit := fun A' c' B A'' c'' B' W (h : RowI W B (.slice A' ys.length c') ys) (h' : RowI W B' (.slice A'' zs.length c'') zs) => within_any ys zs A' A'' ys.length c' zs.length c'' W rfl h.rd2.1 (by omega) h.rd2.2.2 hyi rfl h'.rd2.1 (by omega) h'.rd2.2.2 hzi
  have hcr := fun hg A' c' B W (h : RowI W B (.slice A' ys.length c') ys) => canonR_any ys A' ys.length c' W rfl (by omega) h.rd2.2.2 (good_lit (xs := ys) hg hyi)
  rw [within_eq] at hwit
  have halq := fun hg => always_eq ys (good_lit (xs := ys) hg hyi)
  have hlit := fun hg => good_lit (xs := ys) hg hyi
  have hclen := canonI_len ys
  have haw := cawake_any
  unfold bothG at hwit
  generalize hGz : goodB zs = Gz at *
  generalize hG : goodB ys = G at *
  generalize hIn : ys.all (fun l => hasB zs l) = IN at *
  generalize hSo : ys.any (fun l => hasB ys (-l)) = SO at *
  generalize hAd : adjB (canonI ys) = AD at *
  generalize hcy : canonI ys = cy at *
  clear hr hr2 hwf hwf2 hyi hzi hG hGz
  cases G with
  | false =>
    simp only [Bool.false_and, Bool.false_eq_true, if_false] at hcan halw hwit
    have HF1 := Lib.hid hf1
    have HF2 := Lib.hid hf2
    have HFY := Lib.hid hffy
    have HFZ := Lib.hid hffz
    have HGY := Lib.hid hgdy
    have HCN := Lib.hid hcan
    have HAL := Lib.hid halw
    have HWI := Lib.hid hwit
    have HAW := Lib.hid haw
    have HGZ := Lib.hid hgdz
    have HCR := Lib.hid hcr
    have HHY := Lib.hid hhsy
    have HHZ := Lib.hid hhsz
    have HALQ := Lib.hid halq
    have HLIT := Lib.hid hlit
    have HIN := Lib.hid hIn
    have HSO := Lib.hid hSo
    clear hf1 hf2 hffy hffz hgdy hgdz hcan halw hwit haw hcr hhsy hhsz halq hlit hIn hSo hAd hcy
    go_enter Try.func7, Try.ntmps7
    go_wp2_with fail
    go_at_call 13
    refine (HF1.out).mono ?_
    rintro e w1 ⟨v1, rfl, ho1, hb1⟩
    go_wp2_with fail
    go_at_call 13
    refine (HF2.out _ hb1).mono ?_
    rintro e w2 ⟨v2, rfl, ho2, hb2⟩
    obtain ⟨A1, c1, rfl⟩ := ho1.form
    obtain ⟨A3, c3, rfl⟩ := ho2.form
    have hb12 := bstepC hb1 hb2
    have HO1 := Lib.hid (ho1.below hb2)
    have HO2 := Lib.hid ho2
    clear ho1 ho2
    go_wp2_with fail
    go_at_call 13
    refine (HFY.out _ _ _ HO1.out).mono ?_
    rintro e w3 ⟨v3, rfl, ho3, hb3⟩
    obtain ⟨A4, c4, rfl⟩ := ho3.form
    have HO3 := Lib.hid ho3
    clear ho3
    go_wp2_with fail
    go_at_call 21
    refine (HCN.out _ _ _ _ HO3.out).mono ?_
    rintro e w4 ⟨v4, rfl, ho4, hb4⟩
    have hb24 := bstepC hb3 hb4
    obtain ⟨A5, c5, rfl⟩ := ho4.form
    have HO4 := Lib.hid ho4
    clear ho4
    go_wp2_with fail
    go_at_call 13
    refine (HFY.out _ _ _ (HO1.out.below hb24)).mono ?_
    rintro e w5 ⟨v5, rfl, ho5, hb5⟩
    obtain ⟨A6, c6, rfl⟩ := ho5.form
    have HO5 := Lib.hid ho5
    clear ho5
    go_wp2_with fail
    go_at_call 24
    refine (HAL.out _ _ _ _ HO5.out).mono ?_
    rintro e w6 ⟨rfl, hb6⟩
    have hb26 := bstepC hb24 (bstepC hb5 hb6)
    go_wp2_with fail
    go_at_call 13
    refine (HFY.out _ _ _ (HO1.out.below hb26)).mono ?_
    rintro e w7 ⟨v7, rfl, ho7, hb7⟩
    obtain ⟨A7, c7, rfl⟩ := ho7.form
    go_wp2_with fail
    go_at_call 13
    refine (HFZ.out _ _ _ (HO2.out.below (bstepC hb26 hb7))).mono ?_
    rintro e w8 ⟨v8, rfl, ho8, hb8⟩
    obtain ⟨A8, c8, rfl⟩ := ho8.form
    have HO7 := Lib.hid (ho7.below hb8)
    have HO8 := Lib.hid ho8
    clear ho7 ho8
    go_wp2_with fail
    go_at_call 25
    refine (HWI.out _ _ _ _ _ _ _ HO7.out HO8.out).mono ?_
    rintro e w9 ⟨rfl, hb9⟩
    have hb29 := bstepC hb26 (bstepC hb7 (bstepC hb8 hb9))
    go_wp2_with fail
    go_at_call 15
    refine (HGY.out _ _ _ _ (HO1.out.below hb29)).mono ?_
    rintro e w' ⟨rfl, hw⟩; obtain rfl := hw.symm
    go_wp2_with fail
    go_at_call 16
    refine (HAW.out _).mono ?_
    rintro e w10 ⟨rfl, hb10⟩
    go_wp2_with fail
    go_ret
    exact ⟨by simp, bstepC hb12 (bstepC hb29 hb10)⟩
  | true =>
    simp only [Bool.true_and, if_true] at hcan halw hwit
    generalize hWV : (if Gz = true then IN else false) = WV at *
    generalize hWE : (if Gz = true then (0 : Int) else 4) = WE at *
    have HW := Lib.hid (And.intro hWV hWE)
    clear hWV hWE
    have hcr := hcr rfl
    have halq := halq rfl
    have hlit := hlit rfl
    have HF1 := Lib.hid hf1
    have HF2 := Lib.hid hf2
    have HFY := Lib.hid hffy
    have HFZ := Lib.hid hffz
    have HGY := Lib.hid hgdy
    have HCN := Lib.hid hcan
    have HAL := Lib.hid halw
    have HWI := Lib.hid hwit
    have HAW := Lib.hid haw
    have HGZ := Lib.hid hgdz
    have HCR := Lib.hid hcr
    have HHY := Lib.hid hhsy
    have HHZ := Lib.hid hhsz
    have HALQ := Lib.hid halq
    have HLIT := Lib.hid hlit
    have HIN := Lib.hid hIn
    have HSO := Lib.hid hSo
    clear hf1 hf2 hffy hffz hgdy hgdz hcan halw hwit haw hcr hhsy hhsz halq hlit hIn hSo hAd hcy
    go_enter Try.func7, Try.ntmps7
    go_wp2_with fail
    go_at_call 13
    refine (HF1.out).mono ?_
    rintro e w1 ⟨v1, rfl, ho1, hb1⟩
    go_wp2_with fail
    go_at_call 13
    refine (HF2.out _ hb1).mono ?_
    rintro e w2 ⟨v2, rfl, ho2, hb2⟩
    obtain ⟨A1, c1, rfl⟩ := ho1.form
    obtain ⟨A3, c3, rfl⟩ := ho2.form
    have hb12 := bstepC hb1 hb2
    have HO1 := Lib.hid (ho1.below hb2)
    have HO2 := Lib.hid ho2
    clear ho1 ho2
    go_wp2_with fail
    go_at_call 13
    refine (HFY.out _ _ _ HO1.out).mono ?_
    rintro e w3 ⟨v3, rfl, ho3, hb3⟩
    obtain ⟨A4, c4, rfl⟩ := ho3.form
    have HO3 := Lib.hid ho3
    clear ho3
    go_wp2_with fail
    go_at_call 21
    refine (HCN.out _ _ _ _ HO3.out).mono ?_
    rintro e w4 ⟨v4, rfl, ho4, hb4⟩
    have hb24 := bstepC hb3 hb4
    obtain ⟨A5, c5, rfl⟩ := ho4.form
    have HO4 := Lib.hid ho4
    clear ho4
    go_wp2_with fail
    go_at_call 13
    refine (HFY.out _ _ _ (HO1.out.below hb24)).mono ?_
    rintro e w5 ⟨v5, rfl, ho5, hb5⟩
    obtain ⟨A6, c6, rfl⟩ := ho5.form
    have HO5 := Lib.hid ho5
    clear ho5
    go_wp2_with fail
    go_at_call 24
    refine (HAL.out _ _ _ _ HO5.out).mono ?_
    rintro e w6 ⟨rfl, hb6⟩
    have hb26 := bstepC hb24 (bstepC hb5 hb6)
    go_wp2_with fail
    go_at_call 13
    refine (HFY.out _ _ _ (HO1.out.below hb26)).mono ?_
    rintro e w7 ⟨v7, rfl, ho7, hb7⟩
    obtain ⟨A7, c7, rfl⟩ := ho7.form
    go_wp2_with fail
    go_at_call 13
    refine (HFZ.out _ _ _ (HO2.out.below (bstepC hb26 hb7))).mono ?_
    rintro e w8 ⟨v8, rfl, ho8, hb8⟩
    obtain ⟨A8, c8, rfl⟩ := ho8.form
    have HO7 := Lib.hid (ho7.below hb8)
    have HO8 := Lib.hid ho8
    clear ho7 ho8
    go_wp2_with fail
    go_at_call 25
    refine (HWI.out _ _ _ _ _ _ _ HO7.out HO8.out).mono ?_
    rintro e w9 ⟨rfl, hb9⟩
    have hb29 := bstepC hb26 (bstepC hb7 (bstepC hb8 hb9))
    go_wp2_with fail
    go_at_call 15
    refine (HGY.out _ _ _ _ (HO1.out.below hb29)).mono ?_
    rintro e w' ⟨rfl, hw⟩; obtain rfl := hw.symm
    have HY1 := Lib.hid (HO1.out.below hb29)
    have HY2 := Lib.hid (HO2.out.below hb29)
    have HY5 := Lib.hid (HO4.out.below (bstepC (bstepC hb5 hb6) (bstepC hb7 (bstepC hb8 hb9))))
    go_wp2_with fail
    have hcy1 : c1 ≤ 9223372036854775807 := by have := HY1.out.rd2.2.1; unfold maxLen at this; omega
    go_loop [11, 12, 70] (fun y z x => ∃ (i : Nat) (p q : Bool), i ≤ ys.length ∧ x = .int .i64 i ∧ y = .bool p ∧ z = .bool q ∧ (p || (ys.drop i).any (fun l => hasB ys (-l))) = SO ∧ (q && (ys.drop i).all (fun l => hasB zs l)) = IN) (fun _ _ x => ys.length - (intOf x).toNat)
    case atStart => exact ⟨0, false, true, Nat.zero_le _, rfl, rfl, rfl, by rw [List.drop_zero, Bool.false_or]; exact HSO.out, by rw [List.drop_zero, Bool.true_and]; exact HIN.out⟩
    case round =>
      obtain ⟨i, p, q, hi', rfl, rfl, rfl, hC1, hC2⟩ := hrel
      by_cases hlt : i < ys.length
      · obtain ⟨b, off, rfl, hc⟩ := HY1.out.rd2.2.2.int i hlt rfl
        obtain ⟨hl0, hl1, hl2'⟩ := HLIT.out _ (getD_mem ys i hlt)
        rw [drop_getD ys i hlt, List.any_cons] at hC1
        rw [drop_getD ys i hlt, List.all_cons] at hC2
        generalize ys.getD i 0 = l at *
        have hneg : IntKind.i64.wrap (-l) = -l := IntWalk.i64_in _ (by omega)
        have h1 := HHY.out _ _ _ (-l) _ HY1.out
        have h2 := HHZ.out _ _ _ l _ HY2.out
        generalize hasB ys (-l) = p' at *
        generalize hasB zs l = q' at *
        rw [← Bool.or_assoc] at hC1
        rw [← Bool.and_assoc] at hC2
        have HC1 := Lib.hid hC1
        have HC2 := Lib.hid hC2
        have H1 := Lib.hid h1
        have H2 := Lib.hid h2
        clear hC1 hC2 h1 h2
        cases p with
        | true =>
          cases q with
          | true =>
            go_wp2_with fail
            go_at_call 26
            refine (H2.out).mono ?_
            rintro e w' ⟨rfl, hw⟩; obtain rfl := hw.symm
            go_wp2_with fail
            go_round
            case rel => exact ⟨i + 1, _, _, by omega, by go_num, rfl, rfl, by simpa using HC1.out, by simpa using HC2.out⟩
            case measure => simp [intOf]; omega
          | false =>
            go_wp2_with fail
            go_round
            case rel => exact ⟨i + 1, _, _, by omega, by go_num, rfl, rfl, by simpa using HC1.out, by simpa using HC2.out⟩
            case measure => simp [intOf]; omega
        | false =>
          go_wp2_with fail
          go_at_call 26
          refine (H1.out).mono ?_
          rintro e w' ⟨rfl, hw⟩; obtain rfl := hw.symm
          cases q with
          | true =>
            go_wp2_with fail
            go_at_call 26
            refine (H2.out).mono ?_
            rintro e w' ⟨rfl, hw⟩; obtain rfl := hw.symm
            go_wp2_with fail
            go_round
            case rel => exact ⟨i + 1, _, _, by omega, by go_num, rfl, rfl, by simpa using HC1.out, by simpa using HC2.out⟩
            case measure => simp [intOf]; omega
          | false =>
            go_wp2_with fail
            go_round
            case rel => exact ⟨i + 1, _, _, by omega, by go_num, rfl, rfl, by simpa using HC1.out, by simpa using HC2.out⟩
            case measure => simp [intOf]; omega
      · obtain rfl : i = ys.length := by omega
        rw [List.drop_of_length_le (Nat.le_refl _), List.any_nil, Bool.or_false] at hC1
        rw [List.drop_of_length_le (Nat.le_refl _), List.all_nil, Bool.and_true] at hC2
        subst hC1 hC2
        have hadp := HALQ.out
        subst hadp
        clear hlt
        go_wp2_with fail
        go_at_call 16
        refine (HAW.out _).mono ?_
        rintro e w10 ⟨rfl, hb10⟩
        go_wp2_with fail
        go_at_call 18
        refine (HCR.out _ _ _ _ (HY1.out.below hb10)).mono ?_
        rintro e w11 ⟨v11, rfl, ho11, hb11⟩
        obtain ⟨A11, c11, rfl, _, hr11⟩ := ho11.form
        have hr5 := (HY5.out.below (bstepC hb10 hb11)).rd2.2.2
        have hsm := same_any cy cy A5 A11 cy.length c5 cy.length c11 w11 rfl (by unfold maxLen; omega) hr5 rfl (by unfold maxLen; omega) hr11
        rw [decide_eq_true rfl] at hsm
        clear hr5 ho11 hr11
        go_wp2_with fail
        go_at_call 19
        refine (hsm).mono ?_
        rintro e w12 ⟨rfl, q12, rfl⟩
        have hb12' := below_drewN (bstepC hb10 hb11) q12
        have hgz := HGZ.out _ _ _ _ (HY2.out.below hb12')
        clear hsm
        have hbend := bstepC hb12 (bstepC hb29 hb12')
        obtain ⟨e1, e2⟩ := HW.out
        cases Gz with
        | true =>
          rw [if_pos rfl] at e1 e2
          subst e1 e2
          go_wp2_with fail
          go_at_call 15
          refine (hgz).mono ?_
          rintro e w' ⟨rfl, hw⟩; obtain rfl := hw.symm
          go_wp2_with fail
          go_ret
          exact ⟨by simp, hbend⟩
        | false =>
          rw [if_neg (by simp)] at e1 e2
          subst e1 e2
          go_wp2_with fail
          go_at_call 15
          refine (hgz).mono ?_
          rintro e w' ⟨rfl, hw⟩; obtain rfl := hw.symm
          go_wp2_with fail
          go_ret
          exact ⟨by simp, hbend⟩
end Go.Proofs.Ytbcabcdgblmnkaa
