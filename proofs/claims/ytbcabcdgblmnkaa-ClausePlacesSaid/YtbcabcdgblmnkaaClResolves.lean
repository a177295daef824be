/- The law ClauseResolves. -/
import Derived.Test.YtbcabcdgblmnkaaClCanons
namespace Go.Proofs.Ytbcabcdgblmnkaa
open Go.RowKit
set_option linter.unusedVariables false
set_option linter.unusedSimpArgs false

theorem opp_mem {cx cy : List Int} {l : Int} (h : opp cx cy = [l]) : l ∈ cx ∧ -l ∈ cy := by
  have : l ∈ opp cx cy := by rw [h]; simp
  have := List.mem_filter.1 this
  exact ⟨this.1, by simpa [hasB] using this.2⟩
/-- what resolution gives holds where both do. -/
theorem res_sound (xs ys : List Int) (vals : List Bool) (l : Int) (hl : IsLit l) (h : opp (canonI xs) (canonI ys) = [l]) (hx : xs.any (holdL vals) = true) (hy : ys.any (holdL vals) = true) : (canonI (cutL (canonI xs) (canonI ys) l)).any (holdL vals) = true := by
  rw [canon_holds, List.any_eq_true]
  rw [List.any_eq_true] at hx hy
  obtain ⟨a, ha, hav⟩ := hx
  obtain ⟨b, hb, hbv⟩ := hy
  by_cases h1 : a = l
  · by_cases h2 : b = -l
    · exfalso
      subst h1 h2
      unfold holdL at hav hbv
      have e : (-a).natAbs = a.natAbs := by omega
      rw [e] at hbv
      generalize (if a.natAbs ≤ vals.length then vals.getD (a.natAbs - 1) false else false) = v at *
      have hl0 := hl.1
      by_cases hp : 0 < a
      · rw [decide_eq_true hp] at hav
        rw [decide_eq_false (by omega)] at hbv
        cases v <;> simp at hav hbv
      · rw [decide_eq_false hp] at hav
        rw [decide_eq_true (by omega)] at hbv
        cases v <;> simp at hav hbv
    · refine ⟨b, ?_, hbv⟩
      unfold cutL
      exact List.mem_append.2 (.inr (List.mem_filter.2 ⟨(canonI_mem ys b).2 hb, by simpa using h2⟩))
  · refine ⟨a, ?_, hav⟩
    unfold cutL
    exact List.mem_append.2 (.inl (List.mem_filter.2 ⟨(canonI_mem xs a).2 ha, by simpa using h1⟩))
theorem resC_cases (cx cy : List Int) : (resC cx cy = ([], 0, 6)) ∨ ∃ l, opp cx cy = [l] ∧ resC cx cy = (canonI (cutL cx cy l), l, 0) := by
  unfold resC
  match h : opp cx cy with
  | [] => exact .inl rfl
  | [l] => exact .inr ⟨l, rfl, rfl⟩
  | a :: b :: r => exact .inl rfl

set_option maxRecDepth 100000 in
set_option maxHeartbeats 8000000 in
theorem resolves_law {w : World} (A : Option Addr) (n c : Nat) (xs : List Int) (hl : xs.length = n) (hnc : n ≤ c) (hc : c * 8 ≤ 140737488351232) (hr : Rd w 1 A n (ints xs)) (hwf : ∀ x ∈ xs, (Lit.int .i64 x).wf = true)
    (A2 : Option Addr) (n2 c2 : Nat) (xs2 : List Int) (hl2 : xs2.length = n2) (hnc2 : n2 ≤ c2) (hc2 : c2 * 8 ≤ 140737488351232) (hr2 : Rd w 1 A2 n2 (ints xs2)) (hwf2 : ∀ x ∈ xs2, (Lit.int .i64 x).wf = true)
    (A9 : Option Addr) (n9 c9 : Nat) (vals : List Bool) (hl9 : vals.length = n9) (hnc9 : n9 ≤ c9) (hc9 : c9 * 1 ≤ 140737488351232) (hr9 : Rd w 1 A9 n9 (boolL vals)) :
    Calls Try.prog 3 #[.slice A n c, .slice A2 n2 c2, .slice A9 n9 c9] w fun e w' => e = .returned (.bool true) ∧ Below w.heap.size w w' := by
  have hf1 := few_row xs A n c w hl hnc hc hr
  have hf2 := fun w1 (hb : Below w.heap.size w w1) => few_row xs2 A2 n2 c2 w1 hl2 hnc2 hc2 (hr2.below hb)
  have hys := few_len xs
  have hyi := few_i64 (i64s xs hwf)
  have hzs := few_len xs2
  have hzi := few_i64 (i64s xs2 hwf2)
  generalize xs.take 60 = ys at *
  generalize xs2.take 60 = zs at *
  have hffy := fun v B W (h : RowI W B v ys) => few_again ys v B W hys h
  have hffz := fun v B W (h : RowI W B v zs) => few_again zs v B W hzs h
  have hgdy := fun A' c' B W (h : RowI W B (.slice A' ys.length c') ys) => goodR ys A' c' B W hys h
  have hgdz := fun A' c' B W (h : RowI W B (.slice A' zs.length c') zs) => goodR zs A' c' B W hzs h
  have hres := fun A' c' B A'' c'' B' W (h : RowI W B (.slice A' ys.length c') ys) (h' : RowI W B' (.slice A'' zs.length c'') zs) => resolve_any ys zs A' A'' ys.length c' zs.length c'' W rfl h.rd2.1 (by omega) h.rd2.2.2 hyi rfl h'.rd2.1 (by omega) h'.rd2.2.2 hzi
  have haw := cawake_any
  have HF1 := Lib.hid hf1
  have HF2 := Lib.hid hf2
  have HFY := Lib.hid hffy
  have HFZ := Lib.hid hffz
  have HAW := Lib.hid haw
  have HR9 := Lib.hid hr9
  clear hf1 hf2 hffy hffz haw hr hr2 hwf hwf2 hr9
  by_cases hgood : goodB ys = true ∧ goodB zs = true
  · obtain ⟨hg1, hg2⟩ := hgood
    have hb : bothG ys zs = true := by unfold bothG; rw [hg1, hg2]; rfl
    rw [hg1] at hgdy
    rw [hg2] at hgdz
    have hly := good_lit hg1 hyi
    have hlz := good_lit hg2 hzi
    have hcry := fun A' c' B W (h : RowI W B (.slice A' ys.length c') ys) => canonR_any ys A' ys.length c' W rfl (by omega) h.rd2.2.2 hly
    have hcrz := fun A' c' B W (h : RowI W B (.slice A' zs.length c') zs) => canonR_any zs A' zs.length c' W rfl (by omega) h.rd2.2.2 hlz
    have hrr := fun A' c' B A'' c'' B' W (h : RowI W B (.slice A' (canonI ys).length c') (canonI ys)) (h' : RowI W B' (.slice A'' (canonI zs).length c'') (canonI zs)) => resolveR_any (canonI ys) (canonI zs) A' A'' c' c'' W (by have := canonI_len ys; omega) h.rd2.2.2 (canon_lits hly) (by have := canonI_len zs; omega) h'.rd2.2.2 (canon_lits hlz)
    unfold resP at hres
    rw [hb] at hres
    simp only [if_true] at hres
    have hhy := fun A' c' B W (h : RowI W B (.slice A' ys.length c') ys) (hv : Rd W 1 A9 n9 (boolL vals)) => holdsR_any ys A' ys.length c' vals A9 n9 c9 W rfl (by unfold maxLen; omega) h.rd2.2.2 hly hl9 (by unfold maxLen; omega) hv
    have hhz := fun A' c' B W (h : RowI W B (.slice A' zs.length c') zs) (hv : Rd W 1 A9 n9 (boolL vals)) => holdsR_any zs A' zs.length c' vals A9 n9 c9 W rfl (by unfold maxLen; omega) h.rd2.2.2 hlz hl9 (by unfold maxLen; omega) hv
    have hrc := resC_cases (canonI ys) (canonI zs)
    have hsound := fun l h => res_sound ys zs vals l h
    have hmem := fun l (h : opp (canonI ys) (canonI zs) = [l]) => hly l ((canonI_mem ys l).1 (opp_mem h).1)
    have hmemz := fun l (h : opp (canonI ys) (canonI zs) = [l]) => hlz (-l) ((canonI_mem zs (-l)).1 (opp_mem h).2)
    have hclen : ∀ l, (canonI (cutL (canonI ys) (canonI zs) l)).length ≤ 200 := fun l => by
      have h1 := canonI_len (cutL (canonI ys) (canonI zs) l)
      have h2 := canonI_len ys
      have h3 := canonI_len zs
      unfold cutL at h1
      rw [List.length_append] at h1
      have := List.length_filter_le (fun a => decide (a ≠ l)) (canonI ys)
      have := List.length_filter_le (fun a => decide (a ≠ -l)) (canonI zs)
      unfold cutL
      omega
    have hclit : ∀ l, ∀ a ∈ canonI (cutL (canonI ys) (canonI zs) l), IsLit a := fun l a ha => by
      have ha := (canonI_mem _ _).1 ha
      unfold cutL at ha
      rcases List.mem_append.1 ha with h | h
      · exact canon_lits hly a (List.mem_filter.1 h).1
      · exact canon_lits hlz a (List.mem_filter.1 h).1
    generalize resC (canonI ys) (canonI zs) = R at *
    have HRS := Lib.hid hres
    have HGY := Lib.hid hgdy
    have HGZ := Lib.hid hgdz
    have HCY := Lib.hid hcry
    have HCZ := Lib.hid hcrz
    have HRR := Lib.hid hrr
    have HHY := Lib.hid hhy
    have HHZ := Lib.hid hhz
    have HSOUND := Lib.hid hsound
    have HMEM := Lib.hid hmem
    have HCL := Lib.hid hclit
    clear hres hgdy hgdz hcry hcrz hrr hhy hhz hsound hmem hmemz hg1 hg2 hb hly hlz hyi hzi hclit
    rcases hrc with rfl | ⟨l, hop, rfl⟩
    · go_enter Try.func3, Try.ntmps3
      go_wp2_with fail
      go_at_call 13
      refine (HF1.out).mono ?_
      rintro e w1 ⟨v1, rfl, ho1, hb1⟩
      go_wp2_with fail
      go_at_call 13
      refine (HF2.out _ hb1).mono ?_
      rintro e w2 ⟨v2, rfl, ho2, hb2⟩
      obtain ⟨A1, c1, rfl⟩ := ho1.form
      obtain ⟨A3, c3, rfl⟩ := ho2.form
      have hb12 := bstepC hb1 hb2
      have HO1 := Lib.hid (ho1.below hb2)
      have HO2 := Lib.hid ho2
      clear ho1 ho2
      go_wp2_with fail
      go_at_call 13
      refine (HFY.out _ _ _ HO1.out).mono ?_
      rintro e w3 ⟨v3, rfl, ho3, hb3⟩
      obtain ⟨A4, c4, rfl⟩ := ho3.form
      go_wp2_with fail
      go_at_call 13
      refine (HFZ.out _ _ _ (HO2.out.below hb3)).mono ?_
      rintro e w4 ⟨v4, rfl, ho4, hb4⟩
      obtain ⟨A5, c5, rfl⟩ := ho4.form
      have HO3 := Lib.hid (ho3.below hb4)
      have HO4 := Lib.hid ho4
      clear ho3 ho4
      go_wp2_with fail
      go_at_call 14
      refine (HRS.out _ _ _ _ _ _ _ HO3.out HO4.out).mono ?_
      rintro e w5 ⟨v5, rfl, ho5, hb5⟩
      have hb25 := bstepC hb3 (bstepC hb4 hb5)
      obtain ⟨A6, c6, rfl⟩ := ho5.form
      have HO5 := Lib.hid ho5
      have HY1 := Lib.hid (HO1.out.below hb25)
      have HY2 := Lib.hid (HO2.out.below hb25)
      clear ho5
      go_wp2_with fail
      go_at_call 15
      refine (HGY.out _ _ _ _ HY1.out).mono ?_
      rintro e w' ⟨rfl, hw⟩; obtain rfl := hw.symm
      go_wp2_with fail
      go_at_call 15
      refine (HGZ.out _ _ _ _ HY2.out).mono ?_
      rintro e w' ⟨rfl, hw⟩; obtain rfl := hw.symm
      go_wp2_with fail
      go_at_call 18
      refine (HCY.out _ _ _ _ HY1.out).mono ?_
      rintro e w6 ⟨v6, rfl, ho6, hb6⟩
      have HO6 := Lib.hid ho6.row
      obtain ⟨A7, c7, rfl⟩ := ho6.row.form
      clear ho6
      go_wp2_with fail
      go_at_call 18
      refine (HCZ.out _ _ _ _ (HY2.out.below hb6)).mono ?_
      rintro e w7 ⟨v7, rfl, ho7, hb7⟩
      have HO7 := Lib.hid ho7.row
      obtain ⟨A8, c8, rfl⟩ := ho7.row.form
      clear ho7
      go_wp2_with fail
      go_at_call 17
      refine (HRR.out _ _ _ _ _ _ _ (HO6.out.below hb7) HO7.out).mono ?_
      rintro e w8 ⟨v8, rfl, ho8, hb8⟩
      go_wp2_with fail
      go_at_call 16
      refine (HAW.out _).mono ?_
      rintro e w10 ⟨rfl, hb10⟩
      go_wp2_with fail
      go_ret
      exact ⟨by simp, bstepC hb12 (bstepC hb25 (bstepC hb6 (bstepC hb7 (bstepC hb8 hb10))))⟩
    · have hlit := HMEM.out l hop
      have hl0 : (l == 0) = false := by have := hlit.1; simpa using this
      have hl0' : ¬ l = 0 := hlit.1
      have hsnd := HSOUND.out l hlit hop
      have hcl := hclen l
      have hcli := HCL.out l
      generalize canonI (cutL (canonI ys) (canonI zs) l) = cz at *
      have HCLI := Lib.hid hcli
      have HSND := Lib.hid hsnd
      clear hop HMEM HCL HSOUND hclen hlit hcli hsnd
      generalize hHx : ys.any (holdL vals) = Hx at *
      generalize hHy : zs.any (holdL vals) = Hy at *
      clear hHx hHy
      go_enter Try.func3, Try.ntmps3
      go_wp2_with fail
      go_at_call 13
      refine (HF1.out).mono ?_
      rintro e w1 ⟨v1, rfl, ho1, hb1⟩
      go_wp2_with fail
      go_at_call 13
      refine (HF2.out _ hb1).mono ?_
      rintro e w2 ⟨v2, rfl, ho2, hb2⟩
      obtain ⟨A1, c1, rfl⟩ := ho1.form
      obtain ⟨A3, c3, rfl⟩ := ho2.form
      have hb12 := bstepC hb1 hb2
      have HO1 := Lib.hid (ho1.below hb2)
      have HO2 := Lib.hid ho2
      clear ho1 ho2
      go_wp2_with fail
      go_at_call 13
      refine (HFY.out _ _ _ HO1.out).mono ?_
      rintro e w3 ⟨v3, rfl, ho3, hb3⟩
      obtain ⟨A4, c4, rfl⟩ := ho3.form
      go_wp2_with fail
      go_at_call 13
      refine (HFZ.out _ _ _ (HO2.out.below hb3)).mono ?_
      rintro e w4 ⟨v4, rfl, ho4, hb4⟩
      obtain ⟨A5, c5, rfl⟩ := ho4.form
      have HO3 := Lib.hid (ho3.below hb4)
      have HO4 := Lib.hid ho4
      clear ho3 ho4
      go_wp2_with fail
      go_at_call 14
      refine (HRS.out _ _ _ _ _ _ _ HO3.out HO4.out).mono ?_
      rintro e w5 ⟨v5, rfl, ho5, hb5⟩
      have hb25 := bstepC hb3 (bstepC hb4 hb5)
      obtain ⟨A6, c6, rfl⟩ := ho5.form
      have HO5 := Lib.hid ho5
      have HY1 := Lib.hid (HO1.out.below hb25)
      have HY2 := Lib.hid (HO2.out.below hb25)
      clear ho5
      go_wp2_with fail
      go_at_call 15
      refine (HGY.out _ _ _ _ HY1.out).mono ?_
      rintro e w' ⟨rfl, hw⟩; obtain rfl := hw.symm
      go_wp2_with fail
      go_at_call 15
      refine (HGZ.out _ _ _ _ HY2.out).mono ?_
      rintro e w' ⟨rfl, hw⟩; obtain rfl := hw.symm
      go_wp2_with fail
      go_at_call 18
      refine (HCY.out _ _ _ _ HY1.out).mono ?_
      rintro e w6 ⟨v6, rfl, ho6, hb6⟩
      have HO6 := Lib.hid ho6.row
      obtain ⟨A7, c7, rfl⟩ := ho6.row.form
      clear ho6
      go_wp2_with fail
      go_at_call 18
      refine (HCZ.out _ _ _ _ (HY2.out.below hb6)).mono ?_
      rintro e w7 ⟨v7, rfl, ho7, hb7⟩
      have HO7 := Lib.hid ho7.row
      obtain ⟨A8, c8, rfl⟩ := ho7.row.form
      clear ho7
      go_wp2_with fail
      go_at_call 17
      refine (HRR.out _ _ _ _ _ _ _ (HO6.out.below hb7) HO7.out).mono ?_
      rintro e w8 ⟨v8, rfl, ho8, hb8⟩
      obtain ⟨A9', c9', rfl⟩ := ho8.form
      have HO8 := Lib.hid ho8
      clear ho8
      go_wp2_with fail
      go_at_call 16
      refine (HAW.out _).mono ?_
      rintro e w10 ⟨rfl, hb10⟩
      have hb510 := bstepC hb6 (bstepC hb7 (bstepC hb8 hb10))
      have hr5 := (HO5.out.below hb510).rd2.2.2
      have hr8 := (HO8.out.below hb10).rd2.2.2
      have hsm := same_any cz cz A6 A9' cz.length c6 cz.length c9' w10 rfl (by unfold maxLen; omega) hr5 rfl (by unfold maxLen; omega) hr8
      rw [decide_eq_true rfl] at hsm
      clear hr5 hr8
      go_wp2_with fail
      go_at_call 19
      refine (hsm).mono ?_
      rintro e w12 ⟨rfl, q12, rfl⟩
      have hb512 := below_drewN hb510 q12
      have hbend := bstepC hb12 (bstepC hb25 hb512)
      have hv12 := HR9.out.below hbend
      have hcz := holdsR_any cz A6 cz.length c6 vals A9 n9 c9 (w10.drewN q12) rfl (by unfold maxLen; omega) (HO5.out.below hb512).rd2.2.2 HCLI.out hl9 (by unfold maxLen; omega) hv12
      have HCZ2 := Lib.hid hcz
      have hhy := HHY.out _ _ _ _ (HY1.out.below hb512) hv12
      have hhz := HHZ.out _ _ _ _ (HY2.out.below hb512) hv12
      clear hsm hcz hv12
      cases Hx with
      | false =>
        clear hhz HCZ2 HSND
        go_wp2_with fail
        go_at_call 20
        refine (hhy).mono ?_
        rintro e w' ⟨rfl, hw⟩; obtain rfl := hw.symm
        go_wp2_with fail
        go_ret
        exact ⟨by simp, hbend⟩
      | true =>
        go_wp2_with fail
        go_at_call 20
        refine (hhy).mono ?_
        rintro e w' ⟨rfl, hw⟩; obtain rfl := hw.symm
        cases Hy with
        | false =>
          clear HCZ2 HSND
          go_wp2_with fail
          go_at_call 20
          refine (hhz).mono ?_
          rintro e w' ⟨rfl, hw⟩; obtain rfl := hw.symm
          go_wp2_with fail
          go_ret
          exact ⟨by simp, hbend⟩
        | true =>
          go_wp2_with fail
          go_at_call 20
          refine (hhz).mono ?_
          rintro e w' ⟨rfl, hw⟩; obtain rfl := hw.symm
          have hcz := HCZ2.out
          rw [HSND.out (by trivial) (by trivial)] at hcz
          go_wp2_with fail
          go_at_call 20
          refine (hcz).mono ?_
          rintro e w' ⟨rfl, hw⟩; obtain rfl := hw.symm
          go_wp2_with fail
          go_ret
          exact ⟨by simp, hbend⟩
  · have hb : bothG ys zs = false := by
      unfold bothG
      cases h1 : goodB ys <;> cases h2 : goodB zs <;> simp_all
    unfold resP at hres
    rw [hb] at hres
    simp only [Bool.false_eq_true, if_false] at hres
    have HRS := Lib.hid hres
    cases hg1 : goodB ys with
    | false =>
      rw [hg1] at hgdy
      have HGY := Lib.hid hgdy
      clear hres hgdy hgdz hb hgood hg1 hyi hzi
      go_enter Try.func3, Try.ntmps3
      go_wp2_with fail
      go_at_call 13
      refine (HF1.out).mono ?_
      rintro e w1 ⟨v1, rfl, ho1, hb1⟩
      go_wp2_with fail
      go_at_call 13
      refine (HF2.out _ hb1).mono ?_
      rintro e w2 ⟨v2, rfl, ho2, hb2⟩
      obtain ⟨A1, c1, rfl⟩ := ho1.form
      obtain ⟨A3, c3, rfl⟩ := ho2.form
      have hb12 := bstepC hb1 hb2
      have HO1 := Lib.hid (ho1.below hb2)
      have HO2 := Lib.hid ho2
      clear ho1 ho2
      go_wp2_with fail
      go_at_call 13
      refine (HFY.out _ _ _ HO1.out).mono ?_
      rintro e w3 ⟨v3, rfl, ho3, hb3⟩
      obtain ⟨A4, c4, rfl⟩ := ho3.form
      go_wp2_with fail
      go_at_call 13
      refine (HFZ.out _ _ _ (HO2.out.below hb3)).mono ?_
      rintro e w4 ⟨v4, rfl, ho4, hb4⟩
      obtain ⟨A5, c5, rfl⟩ := ho4.form
      have HO3 := Lib.hid (ho3.below hb4)
      have HO4 := Lib.hid ho4
      clear ho3 ho4
      go_wp2_with fail
      go_at_call 14
      refine (HRS.out _ _ _ _ _ _ _ HO3.out HO4.out).mono ?_
      rintro e w5 ⟨v5, rfl, ho5, hb5⟩
      have hb25 := bstepC hb3 (bstepC hb4 hb5)
      obtain ⟨A6, c6, rfl⟩ := ho5.form
      have HO5 := Lib.hid ho5
      have HY1 := Lib.hid (HO1.out.below hb25)
      have HY2 := Lib.hid (HO2.out.below hb25)
      clear ho5
      go_wp2_with fail
      go_at_call 15
      refine (HGY.out _ _ _ _ HY1.out).mono ?_
      rintro e w' ⟨rfl, hw⟩; obtain rfl := hw.symm
      go_wp2_with fail
      go_at_call 16
      refine (HAW.out _).mono ?_
      rintro e w10 ⟨rfl, hb10⟩
      go_wp2_with fail
      go_ret
      exact ⟨by simp, bstepC hb12 (bstepC hb25 hb10)⟩
    | true =>
      have hg2 : goodB zs = false := by
        cases h2 : goodB zs with
        | false => rfl
        | true => exact absurd ⟨hg1, h2⟩ hgood
      rw [hg1] at hgdy
      rw [hg2] at hgdz
      have HGY := Lib.hid hgdy
      have HGZ := Lib.hid hgdz
      clear hres hgdy hgdz hb hgood hg1 hg2 hyi hzi
      go_enter Try.func3, Try.ntmps3
      go_wp2_with fail
      go_at_call 13
      refine (HF1.out).mono ?_
      rintro e w1 ⟨v1, rfl, ho1, hb1⟩
      go_wp2_with fail
      go_at_call 13
      refine (HF2.out _ hb1).mono ?_
      rintro e w2 ⟨v2, rfl, ho2, hb2⟩
      obtain ⟨A1, c1, rfl⟩ := ho1.form
      obtain ⟨A3, c3, rfl⟩ := ho2.form
      have hb12 := bstepC hb1 hb2
      have HO1 := Lib.hid (ho1.below hb2)
      have HO2 := Lib.hid ho2
      clear ho1 ho2
      go_wp2_with fail
      go_at_call 13
      refine (HFY.out _ _ _ HO1.out).mono ?_
      rintro e w3 ⟨v3, rfl, ho3, hb3⟩
      obtain ⟨A4, c4, rfl⟩ := ho3.form
      go_wp2_with fail
      go_at_call 13
      refine (HFZ.out _ _ _ (HO2.out.below hb3)).mono ?_
      rintro e w4 ⟨v4, rfl, ho4, hb4⟩
      obtain ⟨A5, c5, rfl⟩ := ho4.form
      have HO3 := Lib.hid (ho3.below hb4)
      have HO4 := Lib.hid ho4
      clear ho3 ho4
      go_wp2_with fail
      go_at_call 14
      refine (HRS.out _ _ _ _ _ _ _ HO3.out HO4.out).mono ?_
      rintro e w5 ⟨v5, rfl, ho5, hb5⟩
      have hb25 := bstepC hb3 (bstepC hb4 hb5)
      obtain ⟨A6, c6, rfl⟩ := ho5.form
      have HO5 := Lib.hid ho5
      have HY1 := Lib.hid (HO1.out.below hb25)
      have HY2 := Lib.hid (HO2.out.below hb25)
      clear ho5
      go_wp2_with fail
      go_at_call 15
      refine (HGY.out _ _ _ _ HY1.out).mono ?_
      rintro e w' ⟨rfl, hw⟩; obtain rfl := hw.symm
      go_wp2_with fail
      go_at_call 15
      refine (HGZ.out _ _ _ _ HY2.out).mono ?_
      rintro e w' ⟨rfl, hw⟩; obtain rfl := hw.symm
      go_wp2_with fail
      go_at_call 16
      refine (HAW.out _).mono ?_
      rintro e w10 ⟨rfl, hb10⟩
      go_wp2_with fail
      go_ret
      exact ⟨by simp, bstepC hb12 (bstepC hb25 hb10)⟩
end Go.Proofs.Ytbcabcdgblmnkaa
