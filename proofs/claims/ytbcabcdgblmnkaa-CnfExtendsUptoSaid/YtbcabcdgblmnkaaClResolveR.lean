/- Contracts of the reference of clauses: Resolve, Holds. -/
import Derived.Test.YtbcabcdgblmnkaaClResolve
namespace Go.Proofs.Ytbcabcdgblmnkaa
open Go.RowKit
set_option linter.unusedVariables false
set_option linter.unusedSimpArgs false

def lastI (xs : List Int) : Int := xs.getLastD 0
theorem lastI_snoc (xs : List Int) (l : Int) : lastI (xs ++ [l]) = l := by simp [lastI]

set_option maxRecDepth 100000 in
set_option maxHeartbeats 8000000 in
theorem resolveR_any (cx cy : List Int) (A1 A5 : Option Addr) (c1 c5 : Nat) (w1 : World) (hn : cx.length ≤ 1000) (hr1 : Rd w1 1 A1 cx.length (ints cx)) (hlx : ∀ l ∈ cx, IsLit l)
    (hm : cy.length ≤ 1000) (hr5 : Rd w1 1 A5 cy.length (ints cy)) (hly : ∀ l ∈ cy, IsLit l) :
    Calls Try.prog 17 #[.slice A1 cx.length c1, .slice A5 cy.length c5] w1 fun e w' => ∃ v, e = .returned (.tuple #[v, .int .i64 (resC cx cy).2.1]) ∧ RowI w' w1.heap.size v (resC cx cy).1 ∧ Below w1.heap.size w1 w' := by
  obtain ⟨i0, hi, hz0, hz1, hz2⟩ := info_parts info_int
  have hres0 : ¬ (opp cx cy).length = 1 → (resC cx cy) = ([], 0, 6) := fun h => by
    unfold resC
    match h' : opp cx cy with
    | [] => rfl
    | [l] => rw [h'] at h; simp at h
    | a :: b :: r => rfl
  have hres1 : ∀ l, opp cx cy = [l] → (resC cx cy) = (canonI (cutL cx cy l), l, 0) := fun l h => by unfold resC; rw [h]
  generalize resC cx cy = R at *
  obtain ⟨rL, ro, re⟩ := R
  simp only [Prod.mk.injEq] at hres0 hres1
  have hOl : (opp cx cy).length ≤ 1000 := by
    have := List.length_filter_le (fun l => hasB cy (-l)) cx
    unfold opp
    omega
  generalize hO : opp cx cy = O at *
  have HO := Lib.hid hO
  have H0 := Lib.hid hres0
  have H1 := Lib.hid hres1
  have HLX := Lib.hid hlx
  have HLY := Lib.hid hly
  have HR1 := Lib.hid hr1
  have HR5 := Lib.hid hr5
  clear hO hres0 hres1 hlx hly hr1 hr5
  go_enter Try.func17, Try.ntmps17
  go_wp2_with fail
  go_loop [6, 7, 17] (fun y z x => ∃ (i : Nat) (pre : List Int), i ≤ cx.length ∧ x = .int .i64 i ∧ y = .int .i64 (lastI pre) ∧ z = .int .i64 pre.length ∧ pre ++ opp (cx.drop i) cy = O) (fun _ _ x => cx.length - (intOf x).toNat)
  case atStart => exact ⟨0, [], Nat.zero_le _, rfl, rfl, rfl, by rw [List.drop_zero]; exact HO.out⟩
  case round =>
    obtain ⟨i, pre, hi', rfl, rfl, rfl, hC⟩ := hrel
    have hpl : pre.length ≤ 1000 := by
      have := congrArg List.length hC
      rw [List.length_append] at this
      omega
    by_cases hlt : i < cx.length
    · obtain ⟨b, off, rfl, hc⟩ := HR1.out.int i hlt rfl
      have hll := HLX.out _ (getD_mem cx i hlt)
      rw [drop_getD cx i hlt, opp_cons] at hC
      generalize cx.getD i 0 = l at *
      have hct := has_any cy A5 cy.length c5 (-l) w1 rfl (by unfold maxLen; omega) HR5.out
      have hneg : IntKind.i64.wrap (-l) = -l := IntWalk.i64_in _ (by have := hll.2; omega)
      obtain ⟨hll0, hll1, hll2⟩ := hll
      cases hh : hasB cy (-l) with
      | false =>
        rw [hh] at hct hC
        rw [if_neg (by simp)] at hC
        have HCC := Lib.hid hC
        clear hC hh
        go_wp2_with (go_at_call 26; refine hct.mono ?_; rintro e w' ⟨rfl, hw⟩; obtain rfl := hw.symm)
        go_round
        case rel => exact ⟨i + 1, pre, by omega, by go_num, rfl, rfl, HCC.out⟩
        case measure => simp [intOf]; omega
      | true =>
        rw [hh] at hct hC
        rw [if_pos rfl] at hC
        have HCC := Lib.hid hC
        clear hh hC
        go_wp2_with (go_at_call 26; refine hct.mono ?_; rintro e w' ⟨rfl, hw⟩; obtain rfl := hw.symm)
        go_round
        case rel => exact ⟨i + 1, pre ++ [l], by omega, by go_num, by rw [lastI_snoc], by simp, by rw [List.append_assoc]; exact HCC.out⟩
        case measure => simp [intOf]; omega
    · obtain rfl : i = cx.length := by omega
      rw [List.drop_of_length_le (Nat.le_refl _), opp_nil, List.append_nil] at hC
      subst hC
      by_cases h1 : pre.length = 1
      · obtain ⟨on, rfl⟩ : ∃ on, pre = [on] := List.length_eq_one_iff.1 h1
        obtain ⟨e1, e2, e3⟩ := H1.out on rfl
        have e2 := e2.symm
        subst e1 e2 e3
        have hon : on ∈ cx := by
          have : on ∈ opp cx cy := by rw [HO.out]; simp
          exact (List.mem_filter.1 this).1
        obtain ⟨hon0, hon1, hon2⟩ := HLX.out on hon
        have hneg : IntKind.i64.wrap (-on) = -on := IntWalk.i64_in _ (by omega)
        have hcut : ∀ l ∈ cutL cx cy on, IsLit l := fun l hl => by
          unfold cutL at hl
          rcases List.mem_append.1 hl with h | h
          · exact HLX.out l (List.mem_filter.1 h).1
          · exact HLY.out l (List.mem_filter.1 h).1
        have hcl : (cutL cx cy on).length ≤ 2000 := by
          unfold cutL
          rw [List.length_append]
          have := List.length_filter_le (fun a => decide (a ≠ on)) cx
          have := List.length_filter_le (fun a => decide (a ≠ -on)) cy
          omega
        have HCUT := Lib.hid hcut
        have hgl : lastI [on] = on := rfl
        rw [hgl]
        clear H0 H1 HO hcut hpl h1 hOl hgl hon
        go_wp2_with fail
        go_loopw [10, 34] (fun y x wr => ∃ (i : Nat) (o : List Int), i ≤ cx.length ∧ x = .int .i64 i ∧ o = id ((cx.take i).filter (fun a => decide (a ≠ on))) ∧ OwnI wr w1.heap.size y o ∧ Below w1.heap.size w1 wr) (fun _ x _ => cx.length - (intOf x).toNat)
        case atStart => exact ⟨0, [], Nat.zero_le _, rfl, by simp, own_empty _ _ _ (Nat.le_refl _), (Below.refl _ _).alloc (Nat.le_refl _) _⟩
        case round =>
          obtain ⟨i, o0, hi', rfl, ho, hown, hbk⟩ := hrel
          by_cases hlt : i < cx.length
          · obtain ⟨b, off, rfl, hc⟩ := (HR1.out.below hbk).int i hlt rfl
            have hsn := filter_snoc cx on i hlt
            have h1 := List.length_filter_le (fun a => decide (a ≠ on)) (cx.take i)
            rw [List.length_take] at h1
            have hol : o0.length ≤ 2000 := by
              rw [ho]
              show (List.filter _ _).length ≤ 2000
              omega
            clear h1
            generalize cx.getD i 0 = l at *
            by_cases he : l = on
            · rw [if_pos he, List.append_nil] at hsn
              have hne3 : (l != on) = false := by simpa using he
              have HO := Lib.hid (ho.trans (by rw [← hsn]))
              clear hsn ho he
              go_wp2_with fail
              go_roundw
              case rel => exact ⟨i + 1, o0, by omega, by go_num, HO.out, hown, hbk⟩
              case measure => simp [intOf]; omega
            · rw [if_neg he] at hsn
              have hne3 : (l != on) = true := by simpa using he
              have hnext : o0 ++ [l] = id ((cx.take (i + 1)).filter (fun a => decide (a ≠ on))) := by rw [hsn, ho]; simp
              have HO := Lib.hid hnext
              clear hsn ho he hnext
              go_wp2_with (at_builtin; refine app1 w1.heap.size w1 wr (.int .i64 l) 3 rfl (.tmp 41) (.tmp 43) 22 rfl i0 (.int .i64 0) 8 Try.underlying22 hi hz0 hz1 hz2 rfl (by decide) _ o0.length (ints o0) rfl (Nat.le_refl _) hown hbk rfl rfl (by omega) ?_)
              intro v2 w2 hown2 hb2' _
              have hown2 := OwnI.snoc hown2
              go_wp2_with fail
              go_roundw
              case rel => exact ⟨i + 1, o0 ++ [l], by omega, by go_num, HO.out, hown2, hb2'⟩
              case measure => simp [intOf]; omega
          · obtain rfl : i = cx.length := by omega
            rw [List.take_of_length_le (Nat.le_refl _), id] at ho
            have HOO := Lib.hid ho
            have ho0l : o0.length ≤ 1000 := by
              rw [ho]
              have := List.length_filter_le (fun a => decide (a ≠ on)) cx
              omega
            have hown0 := hown
            have hbk0 := hbk
            clear ho hown hbk
            go_wp2_with fail
            go_loopw [10, 48] (fun y x wr => ∃ (i : Nat) (o : List Int), i ≤ cy.length ∧ x = .int .i64 i ∧ o = o0 ++ ((cy.take i).filter (fun a => decide (a ≠ (-on)))) ∧ OwnI wr w1.heap.size y o ∧ Below w1.heap.size w1 wr) (fun _ x _ => cy.length - (intOf x).toNat)
            case atStart => exact ⟨0, o0, Nat.zero_le _, rfl, by simp, hown0, hbk0⟩
            case round =>
              obtain ⟨i, o1, hi', rfl, ho, hown, hbk⟩ := hrel
              by_cases hlt : i < cy.length
              · obtain ⟨b, off, rfl, hc⟩ := (HR5.out.below hbk).int i hlt rfl
                have hsn := filter_snoc cy (-on) i hlt
                have h1 := List.length_filter_le (fun a => decide (a ≠ (-on))) (cy.take i)
                rw [List.length_take] at h1
                have hol : o1.length ≤ 2000 := by
                  rw [ho]
                  rw [List.length_append ] 
                  omega
                clear h1
                generalize cy.getD i 0 = l at *
                by_cases he : l = (-on)
                · rw [if_pos he, List.append_nil] at hsn
                  have hne3 : (l != (-on)) = false := by simpa using he
                  have HO := Lib.hid (ho.trans (by rw [← hsn]))
                  clear hsn ho he
                  go_wp2_with fail
                  go_roundw
                  case rel => exact ⟨i + 1, o1, by omega, by go_num, HO.out, hown, hbk⟩
                  case measure => simp [intOf]; omega
                · rw [if_neg he] at hsn
                  have hne3 : (l != (-on)) = true := by simpa using he
                  have hnext : o1 ++ [l] = o0 ++ ((cy.take (i + 1)).filter (fun a => decide (a ≠ (-on)))) := by rw [hsn, ho]; simp
                  have HO := Lib.hid hnext
                  clear hsn ho he hnext
                  go_wp2_with (at_builtin; refine app1 w1.heap.size w1 wr (.int .i64 l) 3 rfl (.tmp 56) (.tmp 58) 22 rfl i0 (.int .i64 0) 8 Try.underlying22 hi hz0 hz1 hz2 rfl (by decide) _ o1.length (ints o1) rfl (Nat.le_refl _) hown hbk rfl rfl (by omega) ?_)
                  intro v2 w2 hown2 hb2' _
                  have hown2 := OwnI.snoc hown2
                  go_wp2_with fail
                  go_roundw
                  case rel => exact ⟨i + 1, o1 ++ [l], by omega, by go_num, HO.out, hown2, hb2'⟩
                  case measure => simp [intOf]; omega
              · obtain rfl : i = cy.length := by omega
                rw [List.take_of_length_le (Nat.le_refl _), HOO.out] at ho
                have hoc : o1 = cutL cx cy on := ho
                have hol : o1.length ≤ 2000 := by rw [hoc]; exact hcl
                obtain ⟨A6, c6, rfl, hn6, hr6⟩ := hown.form
                have hcan := canonR_any o1 A6 o1.length c6 wr rfl (by omega) hr6 (by rw [hoc]; exact HCUT.out)
                have hszw := hbk.size
                have HBK := Lib.hid hbk
                have HCN := Lib.hid hcan
                have HOC := Lib.hid hoc
                clear ho hoc hcan hown hown0 hbk hbk0
                go_wp2_with (go_at_call 18; refine HCN.out.mono ?_; rintro e w7 ⟨v7, rfl, ho7, hb7⟩; have HO7 := Lib.hid ho7; clear ho7)
                go_ret2
                exact ⟨_, rfl, by rw [← HOC.out]; exact HO7.out.row.more (by omega), HBK.out.trans (hb7.mono (by omega))⟩
      · obtain ⟨e1, e2, e3⟩ := H0.out h1
        subst e1 e2 e3
        have hne : ((pre.length : Int) != 1) = true := by simpa using (by omega : ¬ (pre.length : Int) = 1)
        clear H1 HO
        go_wp2_with fail
        go_ret2
        exact ⟨_, rfl, RowI.nil _ _, Below.refl _ _⟩
end Go.Proofs.Ytbcabcdgblmnkaa
