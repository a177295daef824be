/- Contract of package clause: Resolve. -/
import Derived.Test.YtbcabcdgblmnkaaClOps
namespace Go.Proofs.Ytbcabcdgblmnkaa
open Go.RowKit
set_option linter.unusedVariables false
set_option linter.unusedSimpArgs false

/-- the literals of the one whose opposites stand in the other. -/
def opp (cx cy : List Int) : List Int := cx.filter fun l => hasB cy (-l)
theorem opp_cons (l : Int) (cx cy : List Int) : opp (l :: cx) cy = if hasB cy (-l) = true then l :: opp cx cy else opp cx cy := by simp [opp, List.filter_cons]
theorem opp_nil (cy : List Int) : opp [] cy = [] := rfl
def cutL (cx cy : List Int) (l : Int) : List Int := cx.filter (fun a => decide (a ≠ l)) ++ cy.filter (fun a => decide (a ≠ -l))
def resC (cx cy : List Int) : List Int × Int × Int :=
  match opp cx cy with
  | [l] => (canonI (cutL cx cy l), l, 0)
  | _ => ([], 0, 6)
def resP (xs ys : List Int) : List Int × Int × Int := if bothG xs ys = true then resC (canonI xs) (canonI ys) else ([], 0, 4)
theorem filter_snoc (xs : List Int) (l : Int) (i : Nat) (h : i < xs.length) : (xs.take (i + 1)).filter (fun a => decide (a ≠ l)) = (xs.take i).filter (fun a => decide (a ≠ l)) ++ if xs.getD i 0 = l then [] else [xs.getD i 0] := by
  have : xs.take (i + 1) = xs.take i ++ [xs.getD i 0] := by
    rw [List.take_add_one, List.getD_eq_getElem?_getD, List.getElem?_eq_getElem h]; rfl
  rw [this, List.filter_append]
  by_cases e : xs.getD i 0 = l
  · rw [if_pos e, List.filter_cons, if_neg (by rw [decide_eq_true_eq]; exact fun h => h e)]; simp
  · rw [if_neg e, List.filter_cons, if_pos (by rw [decide_eq_true_eq]; exact e)]; simp

set_option maxRecDepth 100000 in
set_option maxHeartbeats 8000000 in
theorem resolve_any (xs ys : List Int) (A A2 : Option Addr) (n c m c2 : Nat) (w : World) (hl : xs.length = n) (hnc : n ≤ c) (hn : n ≤ 1000) (hr : Rd w 1 A n (ints xs)) (hw : ∀ l ∈ xs, IsI64 l)
    (hl2 : ys.length = m) (hnc2 : m ≤ c2) (hm : m ≤ 1000) (hr2 : Rd w 1 A2 m (ints ys)) (hw2 : ∀ l ∈ ys, IsI64 l) :
    Calls Try.prog 14 #[.slice A n c, .slice A2 m c2] w fun e w' => ∃ v, e = .returned (.tuple #[v, .int .i64 (resP xs ys).2.1, .int .i64 (resP xs ys).2.2]) ∧ RowI w' w.heap.size v (resP xs ys).1 ∧ Below w.heap.size w w' := by
  obtain ⟨i0, hi, hz0, hz1, hz2⟩ := info_parts info_int
  have h1 := both_any xs ys A A2 n c m c2 w hl hnc (by omega) hr hw hl2 hnc2 (by omega) hr2 hw2
  have hlen := canonI_len xs
  have hlen2 := canonI_len ys
  have hlit : bothG xs ys = true → (∀ l ∈ canonI xs, IsLit l) ∧ (∀ l ∈ canonI ys, IsLit l) := fun h => by
    simp only [bothG, Bool.and_eq_true] at h
    exact ⟨canon_lits (good_lit h.1 hw), canon_lits (good_lit h.2 hw2)⟩
  unfold resP
  generalize canonI xs = cx at *
  generalize canonI ys = cy at *
  generalize bothG xs ys = gx at *
  clear hr hr2 hw hw2
  cases gx with
  | false =>
    rw [if_neg (by simp), if_neg (by simp), if_neg (by simp)] at h1
    rw [if_neg (by simp)]
    clear hlit
    go_enter Try.func14, Try.ntmps14
    go_wp2_with (go_at_call 40; refine h1.mono ?_; rintro e w1 ⟨v1, v2, rfl, ho1, ho2, hb1⟩; have HO1 := Lib.hid ho1; have HO2 := Lib.hid ho2; clear ho1 ho2)
    go_ret3
    exact ⟨_, rfl, RowI.nil _ _, hb1⟩
  | true =>
    rw [if_pos rfl, if_pos rfl, if_pos rfl] at h1
    rw [if_pos rfl]
    obtain ⟨hlx, hly⟩ := hlit rfl
    have hres0 : opp cx cy = [] → (resC cx cy) = ([], 0, 6) := fun h => by unfold resC; rw [h]
    have hres2 : ∀ a b r, opp cx cy = a :: b :: r → (resC cx cy) = ([], 0, 6) := fun a b r h => by unfold resC; rw [h]
    have hres1 : ∀ l, opp cx cy = [l] → (resC cx cy) = (canonI (cutL cx cy l), l, 0) := fun l h => by unfold resC; rw [h]
    generalize resC cx cy = R at *
    obtain ⟨rL, ro, re⟩ := R
    simp only [Prod.mk.injEq] at hres0 hres1 hres2
    generalize hO : opp cx cy = O at *
    have HO := Lib.hid hO
    have H0 := Lib.hid hres0
    have H1 := Lib.hid hres1
    have H2 := Lib.hid hres2
    have HLX := Lib.hid hlx
    have HLY := Lib.hid hly
    clear hO hres0 hres1 hres2 hlx hly hlit
    go_enter Try.func14, Try.ntmps14
    go_wp2_with (go_at_call 40; refine h1.mono ?_; rintro e w1 ⟨v1, v2, rfl, ho1, ho2, hb1⟩; obtain ⟨A1, c1, rfl, hn1, hm1, hr1⟩ := ho1.rd; have HR1 := Lib.hid hr1; obtain ⟨A5, c5, rfl, hn5, hm5, hr5⟩ := ho2.rd; have HR5 := Lib.hid hr5; have HB1 := Lib.hid hb1; clear ho1 hr1 ho2 hr5 h1 hb1)
    unfold maxLen at hm1 hm5
    go_loop [10, 30] (fun y x => ∃ (i : Nat) (on : Int), i ≤ cx.length ∧ x = .int .i64 i ∧ y = .int .i64 on ∧ ((on = 0 ∧ opp (cx.drop i) cy = O) ∨ (IsLit on ∧ on :: opp (cx.drop i) cy = O))) (fun _ x => cx.length - (intOf x).toNat)
    case atStart => exact ⟨0, 0, Nat.zero_le _, rfl, rfl, .inl ⟨rfl, by rw [List.drop_zero]; exact HO.out⟩⟩
    case round =>
      obtain ⟨i, on, hi', rfl, rfl, hC⟩ := hrel
      by_cases hlt : i < cx.length
      · obtain ⟨b, off, rfl, hc⟩ := HR1.out.int i hlt rfl
        have hll := HLX.out _ (getD_mem cx i hlt)
        rw [drop_getD cx i hlt, opp_cons] at hC
        generalize cx.getD i 0 = l at *
        have hct := contains_any cy A5 cy.length c5 (-l) w1 rfl (by unfold maxLen; omega) HR5.out
        have hneg : IntKind.i64.wrap (-l) = -l := IntWalk.i64_in _ (by have := hll.2; omega)
        obtain ⟨hll0, hll1, hll2⟩ := hll
        cases hh : hasB cy (-l) with
        | false =>
          rw [hh] at hct hC
          rw [if_neg (by simp)] at hC
          have HCC := Lib.hid hC
          clear hC hh
          go_wp2_with (go_at_call 41; refine hct.mono ?_; rintro e w' ⟨rfl, hw⟩; obtain rfl := hw.symm)
          go_round
          case rel => exact ⟨i + 1, on, by omega, by go_num, rfl, HCC.out⟩
          case measure => simp [intOf]; omega
        | true =>
          rw [hh] at hct hC
          rw [if_pos rfl] at hC
          clear hh
          rcases hC with ⟨h0, hC⟩ | ⟨h0, hC⟩
          · subst h0
            have HCC := Lib.hid hC
            clear hC
            go_wp2_with (go_at_call 41; refine hct.mono ?_; rintro e w' ⟨rfl, hw⟩; obtain rfl := hw.symm)
            go_round
            case rel => exact ⟨i + 1, l, by omega, by go_num, rfl, .inr ⟨⟨hll0, hll1, hll2⟩, HCC.out⟩⟩
            case measure => simp [intOf]; omega
          · obtain ⟨e1, e2, e3⟩ := H2.out on l _ hC.symm
            subst e1 e2 e3
            have hne : (on != 0) = true := by simpa using h0.1
            clear hC h0
            go_wp2_with (go_at_call 41; refine hct.mono ?_; rintro e w' ⟨rfl, hw⟩; obtain rfl := hw.symm)
            go_ret3
            exact ⟨_, rfl, RowI.nil _ _, HB1.out⟩
      · obtain rfl : i = cx.length := by omega
        rw [List.drop_of_length_le (Nat.le_refl _), opp_nil] at hC
        rcases hC with ⟨h0, hC⟩ | ⟨h0, hC⟩
        · subst h0
          obtain ⟨e1, e2, e3⟩ := H0.out hC.symm
          subst e1 e2 e3
          clear hC
          go_wp2_with fail
          go_ret3
          exact ⟨_, rfl, RowI.nil _ _, HB1.out⟩
        · obtain ⟨e1, e2, e3⟩ := H1.out on hC.symm
          have e2 := e2.symm
          subst e1 e2 e3
          have hne : (on != 0) = true := by simpa using h0.1
          have hne2 : (on == 0) = false := by simpa using h0.1
          have hneg : IntKind.i64.wrap (-on) = -on := IntWalk.i64_in _ (by have := h0.2; omega)
          obtain ⟨hon0, hon1, hon2⟩ := h0
          have hcut : ∀ l ∈ cutL cx cy on, IsLit l := fun l hl => by
            unfold cutL at hl
            rcases List.mem_append.1 hl with h | h
            · exact HLX.out l ((List.mem_filter.1 h).1)
            · exact HLY.out l ((List.mem_filter.1 h).1)
          have hcl : (cutL cx cy on).length ≤ 2000 := by
            unfold cutL
            rw [List.length_append]
            have := List.length_filter_le (fun a => decide (a ≠ on)) cx
            have := List.length_filter_le (fun a => decide (a ≠ -on)) cy
            omega
          have HCUT := Lib.hid hcut
          clear hC H0 H1 H2 HO hcut
          go_wp2_with fail
          go_loopw [13, 46] (fun y x wr => ∃ (i : Nat) (o : List Int), i ≤ cx.length ∧ x = .int .i64 i ∧ o = id ((cx.take i).filter (fun a => decide (a ≠ on))) ∧ OwnI wr w1.heap.size y o ∧ Below w1.heap.size w1 wr) (fun _ x _ => cx.length - (intOf x).toNat)
          case atStart => exact ⟨0, [], Nat.zero_le _, rfl, by simp, OwnI.nil _ _, Below.refl _ _⟩
          case round =>
            obtain ⟨i, o0, hi', rfl, ho, hown, hbk⟩ := hrel
            by_cases hlt : i < cx.length
            · obtain ⟨b, off, rfl, hc⟩ := (HR1.out.below hbk).int i hlt rfl
              have hsn := filter_snoc cx on i hlt
              have h1 := List.length_filter_le (fun a => decide (a ≠ on)) (cx.take i)
              rw [List.length_take] at h1
              have hol : o0.length ≤ 2000 := by
                rw [ho]
                show (List.filter _ _).length ≤ 2000
                omega
              clear h1
              generalize cx.getD i 0 = l at *
              by_cases he : l = on
              · rw [if_pos he, List.append_nil] at hsn
                have hne3 : (l != on) = false := by simpa using he
                have HO := Lib.hid (ho.trans (by rw [← hsn]))
                clear hsn ho he
                go_wp2_with fail
                go_roundw
                case rel => exact ⟨i + 1, o0, by omega, by go_num, HO.out, hown, hbk⟩
                case measure => simp [intOf]; omega
              · rw [if_neg he] at hsn
                have hne3 : (l != on) = true := by simpa using he
                have hnext : o0 ++ [l] = id ((cx.take (i + 1)).filter (fun a => decide (a ≠ on))) := by rw [hsn, ho]; simp
                have HO := Lib.hid hnext
                clear hsn ho he hnext
                go_wp2_with (at_builtin; refine app1 w1.heap.size w1 wr (.int .i64 l) 3 rfl (.tmp 53) (.tmp 55) 22 rfl i0 (.int .i64 0) 8 Try.underlying22 hi hz0 hz1 hz2 rfl (by decide) _ o0.length (ints o0) rfl (Nat.le_refl _) hown hbk rfl rfl (by omega) ?_)
                intro v2 w2 hown2 hb2' _
                have hown2 := OwnI.snoc hown2
                go_wp2_with fail
                go_roundw
                case rel => exact ⟨i + 1, o0 ++ [l], by omega, by go_num, HO.out, hown2, hb2'⟩
                case measure => simp [intOf]; omega
            · obtain rfl : i = cx.length := by omega
              rw [List.take_of_length_le (Nat.le_refl _), id] at ho
              have HOO := Lib.hid ho
              have ho0l : o0.length ≤ 1000 := by
                rw [ho]
                have := List.length_filter_le (fun a => decide (a ≠ on)) cx
                omega
              have hown0 := hown
              have hbk0 := hbk
              clear ho hown hbk
              go_wp2_with fail
              go_loopw [13, 60] (fun y x wr => ∃ (i : Nat) (o : List Int), i ≤ cy.length ∧ x = .int .i64 i ∧ o = o0 ++ ((cy.take i).filter (fun a => decide (a ≠ (-on)))) ∧ OwnI wr w1.heap.size y o ∧ Below w1.heap.size w1 wr) (fun _ x _ => cy.length - (intOf x).toNat)
              case atStart => exact ⟨0, o0, Nat.zero_le _, rfl, by simp, hown0, hbk0⟩
              case round =>
                obtain ⟨i, o1, hi', rfl, ho, hown, hbk⟩ := hrel
                by_cases hlt : i < cy.length
                · obtain ⟨b, off, rfl, hc⟩ := (HR5.out.below hbk).int i hlt rfl
                  have hsn := filter_snoc cy (-on) i hlt
                  have h1 := List.length_filter_le (fun a => decide (a ≠ (-on))) (cy.take i)
                  rw [List.length_take] at h1
                  have hol : o1.length ≤ 2000 := by
                    rw [ho]
                    rw [List.length_append ] 
                    omega
                  clear h1
                  generalize cy.getD i 0 = l at *
                  by_cases he : l = (-on)
                  · rw [if_pos he, List.append_nil] at hsn
                    have hne3 : (l != (-on)) = false := by simpa using he
                    have HO := Lib.hid (ho.trans (by rw [← hsn]))
                    clear hsn ho he
                    go_wp2_with fail
                    go_roundw
                    case rel => exact ⟨i + 1, o1, by omega, by go_num, HO.out, hown, hbk⟩
                    case measure => simp [intOf]; omega
                  · rw [if_neg he] at hsn
                    have hne3 : (l != (-on)) = true := by simpa using he
                    have hnext : o1 ++ [l] = o0 ++ ((cy.take (i + 1)).filter (fun a => decide (a ≠ (-on)))) := by rw [hsn, ho]; simp
                    have HO := Lib.hid hnext
                    clear hsn ho he hnext
                    go_wp2_with (at_builtin; refine app1 w1.heap.size w1 wr (.int .i64 l) 3 rfl (.tmp 68) (.tmp 70) 22 rfl i0 (.int .i64 0) 8 Try.underlying22 hi hz0 hz1 hz2 rfl (by decide) _ o1.length (ints o1) rfl (Nat.le_refl _) hown hbk rfl rfl (by omega) ?_)
                    intro v2 w2 hown2 hb2' _
                    have hown2 := OwnI.snoc hown2
                    go_wp2_with fail
                    go_roundw
                    case rel => exact ⟨i + 1, o1 ++ [l], by omega, by go_num, HO.out, hown2, hb2'⟩
                    case measure => simp [intOf]; omega
                · obtain rfl : i = cy.length := by omega
                  rw [List.take_of_length_le (Nat.le_refl _), HOO.out] at ho
                  have hoc : o1 = cutL cx cy on := ho
                  have hol : o1.length ≤ 2000 := by rw [hoc]; exact hcl
                  obtain ⟨A6, c6, rfl, hn6, hr6⟩ := hown.form
                  have hcan := canon_good o1 A6 o1.length c6 wr rfl hn6 (by omega) hr6 (by rw [hoc]; exact HCUT.out)
                  rw [hoc] at hcan
                  have hsz := HB1.out.size
                  have hszw := hbk.size
                  have hbw := HB1.out.trans (hbk.mono hsz)
                  rw [← hoc] at hcan
                  have HCN := Lib.hid hcan
                  have HOC := Lib.hid hoc
                  clear ho hoc hcan hown hown0 hbk hbk0
                  go_wp2_with (go_at_call 21; refine HCN.out.mono ?_; rintro e w7 ⟨v7, rfl, ho7, hb7⟩; have HO7 := Lib.hid ho7; clear ho7)
                  go_ret3
                  exact ⟨_, rfl, by rw [← HOC.out]; exact HO7.out.more (by omega), hbw.trans (hb7.mono (by omega))⟩
end Go.Proofs.Ytbcabcdgblmnkaa
