/- The law ClausePlaces. -/
import Derived.Test.YtbcabcdgblmnkaaClPlace
import Derived.Test.YtbcabcdgblmnkaaClChains
namespace Go.Proofs.Ytbcabcdgblmnkaa
open Go.RowKit
set_option linter.unusedVariables false
set_option linter.unusedSimpArgs false

def optI : Option Nat → Int
  | some j => (j : Int)
  | none => -1
def matchQ (yss : List (List Int)) (i j : Nat) : Bool := goodB (rowAt yss j) && decide (canonI (rowAt yss j) = canonI (rowAt yss i))
/-- the least match among m .. i. -/
def firstD (yss : List (List Int)) (i m : Nat) : Option Nat := ((List.range (i + 1)).drop m).find? (matchQ yss i)
theorem firstD_top (yss : List (List Int)) (i : Nat) : firstD yss i (i + 1) = none := by
  unfold firstD
  rw [List.drop_of_length_le (by simp)]
  rfl
theorem firstD_step (yss : List (List Int)) (i m : Nat) (h : m ≤ i) : firstD yss i m = if matchQ yss i m = true then some m else firstD yss i (m + 1) := by
  unfold firstD
  have e : (List.range (i + 1)).drop m = m :: (List.range (i + 1)).drop (m + 1) := by
    rw [List.drop_eq_getElem_cons (by simp; omega)]
    simp
  rw [e, List.find?_cons]
  cases matchQ yss i m <;> simp
theorem rowAt_i64 {yss : List (List Int)} (h : ∀ ys ∈ yss, ∀ l ∈ ys, IsI64 l) (i : Nat) : ∀ l ∈ rowAt yss i, IsI64 l := by
  unfold rowAt
  by_cases hi : i < yss.length
  · exact h _ (getDL_mem yss i hi)
  · rw [List.getD_eq_getElem?_getD, List.getElem?_eq_none (by omega)]
    intro l hl
    simp at hl
theorem out_first {yss : List (List Int)} (h : ∀ ys ∈ yss, ∀ l ∈ ys, IsI64 l) (i : Nat) (hg : goodB (rowAt yss i) = true) : optI (firstD yss i 0) = outAt yss i := by
  have hQ : matchQ yss i = fun j => goodB (rowAt yss j) && decide (kOf (rowAt yss j) = kOf (rowAt yss i)) := by
    funext j
    unfold matchQ kOf
    have hc : ∀ j, ∀ l ∈ canonI (rowAt yss j), IsI64 l := fun j l hl => rowAt_i64 h j l ((canonI_mem _ l).1 hl)
    rw [decide_eq_decide.2 (key_inj _ _ (hc j) (hc i)).symm]
  unfold outAt
  rw [if_pos hg, psA_look]
  unfold firstD
  rw [List.drop_zero, hQ]
  generalize hf : (List.range (i + 1)).find? (fun j => goodB (rowAt yss j) && decide (kOf (rowAt yss j) = kOf (rowAt yss i))) = f
  cases f with
  | some j => rfl
  | none =>
    rw [List.find?_eq_none] at hf
    have := hf i (by simp)
    simp [hg] at this

set_option maxRecDepth 100000 in
set_option maxHeartbeats 8000000 in
theorem places_law {w : World} (A : Option Addr) (n c : Nat) (xss : List (List Int)) (vs : List Value) (hl : xss.length = n) (hnc : n ≤ c) (hc : c ≤ maxLen) (hr : Rd w 1 A n vs) (hmat : MatI w vs xss) (hwf : ∀ xs ∈ xss, ∀ l ∈ xs, IsI64 l) :
    Calls Try.prog 9 #[.slice A n c] w fun e w' => e = .returned (.bool true) ∧ Below w.heap.size w w' := by
  obtain ⟨i0, hi, hz0, hz1, hz2⟩ := info_parts info_row
  have hyl := takeF_len xss 12
  have hys := takeF_small xss 12
  have hyi := takeF_i64 xss 12 hwf
  have hT := takeF_snoc xss
  have haw := cawake_any
  unfold maxLen at hc
  have hT12 : takeF xss (min 12 n) = takeF xss 12 := by
    unfold takeF
    rcases Nat.le_total 12 n with h | h
    · rw [Nat.min_eq_left h]
    · rw [Nat.min_eq_right h, List.take_of_length_le (by omega), List.take_of_length_le (by omega)]
  rw [hl] at hyl
  generalize hk : min 12 n = k at *
  have hk1 : k ≤ 12 := by omega
  have hk2 : k ≤ n := by omega
  have hk3 : k = 12 ∨ k = n := by omega
  clear hk
  have HR := Lib.hid hr
  have HM := Lib.hid hmat
  have HAW := Lib.hid haw
  have HT := Lib.hid hT
  have HT12 := Lib.hid hT12
  have HYS := Lib.hid hys
  have HYI := Lib.hid hyi
  have HYL := Lib.hid hyl
  clear hr hmat haw hT hys hyi hyl hwf hT12
  go_enter Try.func9, Try.ntmps9
  go_wp2_with fail
  go_loopw [3, 4] (fun y x wr => ∃ (i : Nat) (us : List Value), i ≤ k ∧ x = .int .i64 i ∧ InS w wr y us (takeF xss i)) (fun _ x _ => k - (intOf x).toNat)
  case atStart => exact ⟨0, [], Nat.zero_le _, rfl, InS.nil w w 0 (Below.refl _ _)⟩
  case round =>
    obtain ⟨i, us, hi', rfl, hin⟩ := hrel
    by_cases hlt : i < k
    · have hin1 : (i : Int) < (n : Int) := by omega
      have hin2 : (i : Int) < 12 := by omega
      obtain ⟨b, off, A', c', rfl, hcell, hc1, hcx2, hrd⟩ := (HM.out.below hin.bel).at_ (HR.out.below hin.bel) i (by omega)
      have hsn := HT.out i (by omega)
      generalize xss.getD i [] = x at *
      have hfew := few_any x A' x.length c' wr rfl hc1 hcx2 hrd
      generalize hyss : takeF xss i = yss at *
      have hul : us.length = i := by rw [hin.len, ← hyss, takeF_len]; omega
      have HSN := Lib.hid hsn
      have HIN := Lib.hid hin
      clear hsn hin hyss hrd hc1 hcx2
      go_wp2_with fail
      go_at_call 13
      refine (hfew).mono ?_
      rintro e w1 ⟨v1, rfl, ho1, hb1⟩
      have hin1' := HIN.out.below hb1
      have hrow := ho1.row.more HIN.out.bel.size
      generalize x.take 60 = y at *
      obtain ⟨A4, c4, rfl⟩ := hrow.form
      have HIN1 := Lib.hid hin1'
      have HROW := Lib.hid hrow
      clear ho1 hin1' hrow
      go_wp2_with (at_builtin; refine app1 w.heap.size w w1 (.slice A4 y.length c4) 22 rfl _ _ 39 rfl i0 (.slice none 0 0) 24 Try.underlying39 hi hz0 hz1 hz2 rfl (by decide) _ us.length us rfl (Nat.le_refl _) HIN1.out.own HIN1.out.bel rfl rfl (by omega) ?_)
      intro v2 w2 hown2 hb2 hg2
      have hin2' := HIN1.out.snoc HROW.out hg2 hown2 hb2 (by rw [hul])
      have HIN2 := Lib.hid hin2'
      clear hin2' hown2 hg2 hb2
      go_wp2_with fail
      go_roundw
      case rel => exact ⟨i + 1, us ++ [.slice A4 y.length c4], by omega, by go_num, by rw [HSN.out]; exact HIN2.out⟩
      case measure => simp [intOf]; omega
    · obtain rfl : i = k := by omega
      have hcond : ¬ (i : Int) < (n : Int) ∨ ((i : Int) < (n : Int) ∧ ¬ (i : Int) < 12) := by omega
      rw [HT12.out] at hin
      have hyl2 := HYL.out
      have hys2 := HYS.out
      have hyi2 := HYI.out
      clear HT HT12 HYL HYS HYI
      generalize takeF xss 12 = yss at *
      obtain ⟨A5, c5, rfl, hnc5, hcm5, hr5, hm5⟩ := hin.mat
      rw [hyl2] at hnc5 hr5
      have hpl := places_any yss us A5 i c5 wr hyl2 (by omega) hnc5 hcm5 hr5 hm5 hys2 hyi2
      have HB := Lib.hid hin.bel
      have HR5 := Lib.hid hr5
      have HM5 := Lib.hid hm5
      have HYL := Lib.hid hyl2
      have HYS := Lib.hid hys2
      have HYI := Lib.hid hyi2
      clear hin hr5 hm5
      unfold maxLen at hcm5
      rw [hyl2]
      clear hyl2 hys2 hyi2
      rcases hcond with hcn | ⟨hcn, hcm⟩
      ·
        go_wp2_with fail
        go_at_call 30
        refine (hpl).mono ?_
        rintro e w1 ⟨v1, rfl, ho1, hb1⟩
        obtain ⟨A1, c1, rfl, hn1, hr1⟩ := ho1.form
        rw [outsL_len] at hn1 hr1 ⊢
        have HB1 := Lib.hid (bstepC HB.out hb1)
        have HR1 := Lib.hid hr1
        have HR51 := Lib.hid (HR5.out.below hb1)
        have HM51 := Lib.hid (HM5.out.below hb1)
        clear ho1 hb1 hr1 HR5 HM5 HB
        go_wp2_with fail
        go_at_call 16
        refine (HAW.out _).mono ?_
        rintro e w2 ⟨rfl, hb2⟩
        have HB2 := Lib.hid (bstepC HB1.out hb2)
        have HR2 := Lib.hid (HR1.out.below hb2)
        have HR52 := Lib.hid (HR51.out.below hb2)
        have HM52 := Lib.hid (HM51.out.below hb2)
        clear hb2 HR1 HR51 HM51 HB1
        go_wp2_with fail
        go_loopw [42] (fun x wr => ∃ (q : Nat), q ≤ i ∧ x = .int .i64 q ∧ Below w2.heap.size w2 wr) (fun x _ => i - (intOf x).toNat)
        case atStart => exact ⟨0, Nat.zero_le _, rfl, Below.refl _ _⟩
        case round =>
          obtain ⟨q, hq', rfl, hbq⟩ := hrel
          by_cases hltq : q < i
          · obtain ⟨b6, off6, A6, c6, rfl, hcell6, hc61, hc62, hrd6⟩ := (HM52.out.below hbq).at_ (HR52.out.below hbq) q hltq
            obtain ⟨b7, off7, rfl, hcell7⟩ := (HR2.out.below hbq).int q hltq (outsL_len _ _)
            have hget : (outsL yss i).getD q 0 = outAt yss q := by
              unfold outsL
              rw [List.getD_eq_getElem?_getD, List.getElem?_map, List.getElem?_range hltq]
              rfl
            rw [hget] at hcell7
            have hmem := getDL_mem yss q (by rw [HYL.out]; exact hltq)
            have hsz6 := HYS.out _ hmem
            have hii6 := HYI.out _ hmem
            have hrow : rowAt yss q = yss.getD q [] := rfl
            rw [← hrow] at hcell6 hc61 hrd6 hsz6 hii6
            have hof := out_first HYI.out q
            have hou : goodB (rowAt yss q) = false → outAt yss q = -1 := fun h => by unfold outAt; rw [if_neg (by rw [h]; simp)]
            have hgd := fun W (hb : Below wr.heap.size wr W) => good_any (rowAt yss q) A6 (rowAt yss q).length c6 W rfl (by unfold maxLen; omega) (hrd6.below hb)
            have hcan := fun hg W (hb : Below wr.heap.size wr W) => canonR_any (rowAt yss q) A6 (rowAt yss q).length c6 W rfl (by omega) (hrd6.below hb) (good_lit (xs := rowAt yss q) hg hii6)
            have HGD := Lib.hid hgd
            have HCAN := Lib.hid hcan
            have HOF := Lib.hid hof
            have HOU := Lib.hid hou
            have HBQ := Lib.hid hbq
            have HC7 := Lib.hid hcell7
            have hclq := canonI_len (rowAt yss q)
            generalize hyq : (rowAt yss q).length = lq at *
            clear hget hmem hii6 hrow hrd6 hc61 hc62 hgd hcan hof hou hcell7 hbq
            go_upto_region 12 with fail
            clear hcell6
            go_wp2_with fail
            obtain ⟨wq, rfl⟩ : ∃ x, x = wr := ⟨_, rfl⟩
            cases hgq : goodB (rowAt yss q) with
            | false =>
              have hou := HOU.out hgq
              rw [hgq] at HGD
              go_loopw [8, 9] (fun y x wr => y = .int .i64 (-1) ∧ x = .int .i64 q ∧ wr = wq) (fun _ _ _ => 0)
              case atStart => exact ⟨rfl, rfl, rfl⟩
              case round =>
                obtain ⟨rfl, rfl, rfl⟩ := hrel
                have hcell7 := HC7.out
                rw [hou] at hcell7
                have hgd := HGD.out _ (Below.refl _ _)
                have hq0 : (0 : Int) ≤ (q : Int) := by omega
                go_wp2_with fail
                go_at_call 15
                refine (hgd).mono ?_
                rintro e w' ⟨rfl, hw⟩; obtain rfl := hw.symm
                go_wp2_with fail
                go_roundw
                case rel => exact ⟨q + 1, by omega, by go_num, HBQ.out⟩
                case measure => first | (simp [intOf]; done) | (simp [intOf]; omega)
            | true =>
              have hof := HOF.out hgq
              have hcanq := HCAN.out hgq
              rw [hgq] at HGD
              have HCANQ := Lib.hid hcanq
              have HOF2 := Lib.hid hof
              clear hof hcanq HCAN HOF HOU
              go_loopw [8, 9] (fun y x wr => ∃ (m : Nat), m ≤ q + 1 ∧ x = .int .i64 ((m : Int) - 1) ∧ y = .int .i64 (optI (firstD yss q m)) ∧ Below wq.heap.size wq wr) (fun _ x _ => (intOf x + 1).toNat)
              case atStart => exact ⟨q + 1, Nat.le_refl _, by go_num, by rw [firstD_top]; rfl, Below.refl _ _⟩
              case round =>
                obtain ⟨m, hm', rfl, rfl, hbi⟩ := hrel
                rcases Nat.eq_zero_or_pos m with h0 | h0
                · subst h0
                  rw [show ((0 : Nat) : Int) - 1 = -1 by rfl, HOF2.out]
                  obtain hcell7 := (hbi.cell (p := ⟨b7, off7 + q, none⟩) (World.block_lt_of_cell? wq _ HC7.out)).trans HC7.out
                  go_wp2_with fail
                  go_roundw
                  case rel => exact ⟨q + 1, by omega, by go_num, HBQ.out.trans (hbi.mono HBQ.out.size)⟩
                  case measure => first | (simp [intOf]; done) | (simp [intOf]; omega)
                · obtain ⟨p, rfl⟩ : ∃ p, m = p + 1 := ⟨m - 1, by omega⟩
                  have hpi : p < i := by omega
                  rw [show ((p + 1 : Nat) : Int) - 1 = (p : Int) by omega]
                  have hp0 : (0 : Int) ≤ (p : Int) := by omega
                  have hbw := HBQ.out.trans (hbi.mono HBQ.out.size)
                  obtain ⟨b8, off8, A8, c8, e8, hcell8, hc81, hc82, hrd8⟩ := (HM52.out.below hbw).at_ (HR52.out.below hbw) p hpi
                  injection e8 with e8
                  injection e8 with e81 e82
                  subst e81 e82
                  have hmem8 := getDL_mem yss p (by rw [HYL.out]; exact hpi)
                  have hsz8 := HYS.out _ hmem8
                  have hii8 := HYI.out _ hmem8
                  have hrow8 : rowAt yss p = yss.getD p [] := rfl
                  have hst := firstD_step yss q p (by omega)
                  unfold matchQ at hst
                  rw [← hrow8] at hcell8 hc81 hrd8 hsz8 hii8
                  generalize rowAt yss p = y8 at *
                  have hgd8 := fun W (hb : Below wr.heap.size wr W) => good_any y8 A8 y8.length c8 W rfl (by unfold maxLen; omega) (hrd8.below hb)
                  have hcan8 := fun hg W (hb : Below wr.heap.size wr W) => canonR_any y8 A8 y8.length c8 W rfl (by omega) (hrd8.below hb) (good_lit (xs := y8) hg hii8)
                  have hcl8 := canonI_len y8
                  have HST := Lib.hid hst
                  have HGD8 := Lib.hid hgd8
                  have HCAN8 := Lib.hid hcan8
                  have HBI := Lib.hid hbi
                  have hgdq := HGD.out wr hbi
                  clear hst hgd8 hcan8 hmem8 hii8 hrow8 hrd8 hbi hbw
                  cases hg8 : goodB y8 with
                  | false =>
                    have hst := HST.out
                    rw [hg8, Bool.false_and, if_neg (by simp)] at hst
                    have hgd8 := HGD8.out wr (Below.refl _ _)
                    rw [hg8] at hgd8
                    have HST2 := Lib.hid hst
                    clear hst hg8 HST
                    go_wp2_with fail
                    go_at_call 15
                    refine (hgdq).mono ?_
                    rintro e w' ⟨rfl, hw⟩; obtain rfl := hw.symm
                    go_wp2_with fail
                    go_at_call 15
                    refine (hgd8).mono ?_
                    rintro e w' ⟨rfl, hw⟩; obtain rfl := hw.symm
                    go_wp2_with fail
                    go_roundw
                    case rel => exact ⟨p, by omega, by go_num, by rw [HST2.out], HBI.out⟩
                    case measure => first | (simp [intOf]; done) | (simp [intOf]; omega)
                  | true =>
                    have hst := HST.out
                    rw [hg8, Bool.true_and] at hst
                    have hgd8 := HGD8.out wr (Below.refl _ _)
                    rw [hg8] at hgd8
                    have hcan8 := HCAN8.out hg8
                    have HCAN8' := Lib.hid hcan8
                    clear HST HCAN8 hcan8
                    generalize canonI y8 = cp at *
                    generalize canonI (rowAt yss q) = cq at *
                    have HST2 := Lib.hid hst
                    clear hst hg8
                    go_wp2_with fail
                    go_at_call 15
                    refine (hgdq).mono ?_
                    rintro e w' ⟨rfl, hw⟩; obtain rfl := hw.symm
                    go_wp2_with fail
                    go_at_call 15
                    refine (hgd8).mono ?_
                    rintro e w' ⟨rfl, hw⟩; obtain rfl := hw.symm
                    go_wp2_with fail
                    go_at_call 18
                    refine (HCAN8'.out _ (Below.refl _ _)).mono ?_
                    rintro e w10 ⟨v10, rfl, ho10, hb10⟩
                    obtain ⟨A10, c10, rfl, _, hr10⟩ := ho10.form
                    have HR10 := Lib.hid hr10
                    clear ho10 hr10
                    go_wp2_with fail
                    go_at_call 18
                    refine (HCANQ.out _ (bstepC HBI.out hb10)).mono ?_
                    rintro e w11 ⟨v11, rfl, ho11, hb11⟩
                    obtain ⟨A11, c11, rfl, _, hr11⟩ := ho11.form
                    have hsm := same_any cp cq A10 A11 cp.length c10 cq.length c11 w11 rfl (by unfold maxLen; omega) (HR10.out.below hb11) rfl (by unfold maxLen; omega) hr11
                    have hb1011 := bstepC hb10 hb11
                    clear ho11 hr11 HR10
                    by_cases hE : cp = cq
                    · rw [decide_eq_true hE] at hsm
                      have hst := HST2.out
                      rw [decide_eq_true hE, if_pos rfl] at hst
                      have HST3 := Lib.hid hst
                      clear hE hst HST2
                      go_wp2_with fail
                      go_at_call 19
                      refine (hsm).mono ?_
                      rintro e w12 ⟨rfl, q12, rfl⟩
                      have hb12 := below_drewN hb1011 q12
                      go_wp2_with fail
                      go_roundw
                      case rel => exact ⟨p, by omega, by go_num, by rw [HST3.out]; rfl, bstepC HBI.out hb12⟩
                      case measure => first | (simp [intOf]; done) | (simp [intOf]; omega)
                    · rw [decide_eq_false hE] at hsm
                      have hst := HST2.out
                      rw [decide_eq_false hE, if_neg (by simp)] at hst
                      have HST3 := Lib.hid hst
                      clear hE hst HST2
                      go_wp2_with fail
                      go_at_call 19
                      refine (hsm).mono ?_
                      rintro e w12 ⟨rfl, q12, rfl⟩
                      have hb12 := below_drewN hb1011 q12
                      go_wp2_with fail
                      go_roundw
                      case rel => exact ⟨p, by omega, by go_num, by rw [HST3.out], bstepC HBI.out hb12⟩
                      case measure => first | (simp [intOf]; done) | (simp [intOf]; omega)
          · go_wp2_with fail
            go_ret
            exact ⟨rfl, bstepC HB2.out hbq⟩
      ·
        go_wp2_with fail
        go_at_call 30
        refine (hpl).mono ?_
        rintro e w1 ⟨v1, rfl, ho1, hb1⟩
        obtain ⟨A1, c1, rfl, hn1, hr1⟩ := ho1.form
        rw [outsL_len] at hn1 hr1 ⊢
        have HB1 := Lib.hid (bstepC HB.out hb1)
        have HR1 := Lib.hid hr1
        have HR51 := Lib.hid (HR5.out.below hb1)
        have HM51 := Lib.hid (HM5.out.below hb1)
        clear ho1 hb1 hr1 HR5 HM5 HB
        go_wp2_with fail
        go_at_call 16
        refine (HAW.out _).mono ?_
        rintro e w2 ⟨rfl, hb2⟩
        have HB2 := Lib.hid (bstepC HB1.out hb2)
        have HR2 := Lib.hid (HR1.out.below hb2)
        have HR52 := Lib.hid (HR51.out.below hb2)
        have HM52 := Lib.hid (HM51.out.below hb2)
        clear hb2 HR1 HR51 HM51 HB1
        go_wp2_with fail
        go_loopw [42] (fun x wr => ∃ (q : Nat), q ≤ i ∧ x = .int .i64 q ∧ Below w2.heap.size w2 wr) (fun x _ => i - (intOf x).toNat)
        case atStart => exact ⟨0, Nat.zero_le _, rfl, Below.refl _ _⟩
        case round =>
          obtain ⟨q, hq', rfl, hbq⟩ := hrel
          by_cases hltq : q < i
          · obtain ⟨b6, off6, A6, c6, rfl, hcell6, hc61, hc62, hrd6⟩ := (HM52.out.below hbq).at_ (HR52.out.below hbq) q hltq
            obtain ⟨b7, off7, rfl, hcell7⟩ := (HR2.out.below hbq).int q hltq (outsL_len _ _)
            have hget : (outsL yss i).getD q 0 = outAt yss q := by
              unfold outsL
              rw [List.getD_eq_getElem?_getD, List.getElem?_map, List.getElem?_range hltq]
              rfl
            rw [hget] at hcell7
            have hmem := getDL_mem yss q (by rw [HYL.out]; exact hltq)
            have hsz6 := HYS.out _ hmem
            have hii6 := HYI.out _ hmem
            have hrow : rowAt yss q = yss.getD q [] := rfl
            rw [← hrow] at hcell6 hc61 hrd6 hsz6 hii6
            have hof := out_first HYI.out q
            have hou : goodB (rowAt yss q) = false → outAt yss q = -1 := fun h => by unfold outAt; rw [if_neg (by rw [h]; simp)]
            have hgd := fun W (hb : Below wr.heap.size wr W) => good_any (rowAt yss q) A6 (rowAt yss q).length c6 W rfl (by unfold maxLen; omega) (hrd6.below hb)
            have hcan := fun hg W (hb : Below wr.heap.size wr W) => canonR_any (rowAt yss q) A6 (rowAt yss q).length c6 W rfl (by omega) (hrd6.below hb) (good_lit (xs := rowAt yss q) hg hii6)
            have HGD := Lib.hid hgd
            have HCAN := Lib.hid hcan
            have HOF := Lib.hid hof
            have HOU := Lib.hid hou
            have HBQ := Lib.hid hbq
            have HC7 := Lib.hid hcell7
            have hclq := canonI_len (rowAt yss q)
            generalize hyq : (rowAt yss q).length = lq at *
            clear hget hmem hii6 hrow hrd6 hc61 hc62 hgd hcan hof hou hcell7 hbq
            go_upto_region 12 with fail
            clear hcell6
            go_wp2_with fail
            obtain ⟨wq, rfl⟩ : ∃ x, x = wr := ⟨_, rfl⟩
            cases hgq : goodB (rowAt yss q) with
            | false =>
              have hou := HOU.out hgq
              rw [hgq] at HGD
              go_loopw [8, 9] (fun y x wr => y = .int .i64 (-1) ∧ x = .int .i64 q ∧ wr = wq) (fun _ _ _ => 0)
              case atStart => exact ⟨rfl, rfl, rfl⟩
              case round =>
                obtain ⟨rfl, rfl, rfl⟩ := hrel
                have hcell7 := HC7.out
                rw [hou] at hcell7
                have hgd := HGD.out _ (Below.refl _ _)
                have hq0 : (0 : Int) ≤ (q : Int) := by omega
                go_wp2_with fail
                go_at_call 15
                refine (hgd).mono ?_
                rintro e w' ⟨rfl, hw⟩; obtain rfl := hw.symm
                go_wp2_with fail
                go_roundw
                case rel => exact ⟨q + 1, by omega, by go_num, HBQ.out⟩
                case measure => first | (simp [intOf]; done) | (simp [intOf]; omega)
            | true =>
              have hof := HOF.out hgq
              have hcanq := HCAN.out hgq
              rw [hgq] at HGD
              have HCANQ := Lib.hid hcanq
              have HOF2 := Lib.hid hof
              clear hof hcanq HCAN HOF HOU
              go_loopw [8, 9] (fun y x wr => ∃ (m : Nat), m ≤ q + 1 ∧ x = .int .i64 ((m : Int) - 1) ∧ y = .int .i64 (optI (firstD yss q m)) ∧ Below wq.heap.size wq wr) (fun _ x _ => (intOf x + 1).toNat)
              case atStart => exact ⟨q + 1, Nat.le_refl _, by go_num, by rw [firstD_top]; rfl, Below.refl _ _⟩
              case round =>
                obtain ⟨m, hm', rfl, rfl, hbi⟩ := hrel
                rcases Nat.eq_zero_or_pos m with h0 | h0
                · subst h0
                  rw [show ((0 : Nat) : Int) - 1 = -1 by rfl, HOF2.out]
                  obtain hcell7 := (hbi.cell (p := ⟨b7, off7 + q, none⟩) (World.block_lt_of_cell? wq _ HC7.out)).trans HC7.out
                  go_wp2_with fail
                  go_roundw
                  case rel => exact ⟨q + 1, by omega, by go_num, HBQ.out.trans (hbi.mono HBQ.out.size)⟩
                  case measure => first | (simp [intOf]; done) | (simp [intOf]; omega)
                · obtain ⟨p, rfl⟩ : ∃ p, m = p + 1 := ⟨m - 1, by omega⟩
                  have hpi : p < i := by omega
                  rw [show ((p + 1 : Nat) : Int) - 1 = (p : Int) by omega]
                  have hp0 : (0 : Int) ≤ (p : Int) := by omega
                  have hbw := HBQ.out.trans (hbi.mono HBQ.out.size)
                  obtain ⟨b8, off8, A8, c8, e8, hcell8, hc81, hc82, hrd8⟩ := (HM52.out.below hbw).at_ (HR52.out.below hbw) p hpi
                  injection e8 with e8
                  injection e8 with e81 e82
                  subst e81 e82
                  have hmem8 := getDL_mem yss p (by rw [HYL.out]; exact hpi)
                  have hsz8 := HYS.out _ hmem8
                  have hii8 := HYI.out _ hmem8
                  have hrow8 : rowAt yss p = yss.getD p [] := rfl
                  have hst := firstD_step yss q p (by omega)
                  unfold matchQ at hst
                  rw [← hrow8] at hcell8 hc81 hrd8 hsz8 hii8
                  generalize rowAt yss p = y8 at *
                  have hgd8 := fun W (hb : Below wr.heap.size wr W) => good_any y8 A8 y8.length c8 W rfl (by unfold maxLen; omega) (hrd8.below hb)
                  have hcan8 := fun hg W (hb : Below wr.heap.size wr W) => canonR_any y8 A8 y8.length c8 W rfl (by omega) (hrd8.below hb) (good_lit (xs := y8) hg hii8)
                  have hcl8 := canonI_len y8
                  have HST := Lib.hid hst
                  have HGD8 := Lib.hid hgd8
                  have HCAN8 := Lib.hid hcan8
                  have HBI := Lib.hid hbi
                  have hgdq := HGD.out wr hbi
                  clear hst hgd8 hcan8 hmem8 hii8 hrow8 hrd8 hbi hbw
                  cases hg8 : goodB y8 with
                  | false =>
                    have hst := HST.out
                    rw [hg8, Bool.false_and, if_neg (by simp)] at hst
                    have hgd8 := HGD8.out wr (Below.refl _ _)
                    rw [hg8] at hgd8
                    have HST2 := Lib.hid hst
                    clear hst hg8 HST
                    go_wp2_with fail
                    go_at_call 15
                    refine (hgdq).mono ?_
                    rintro e w' ⟨rfl, hw⟩; obtain rfl := hw.symm
                    go_wp2_with fail
                    go_at_call 15
                    refine (hgd8).mono ?_
                    rintro e w' ⟨rfl, hw⟩; obtain rfl := hw.symm
                    go_wp2_with fail
                    go_roundw
                    case rel => exact ⟨p, by omega, by go_num, by rw [HST2.out], HBI.out⟩
                    case measure => first | (simp [intOf]; done) | (simp [intOf]; omega)
                  | true =>
                    have hst := HST.out
                    rw [hg8, Bool.true_and] at hst
                    have hgd8 := HGD8.out wr (Below.refl _ _)
                    rw [hg8] at hgd8
                    have hcan8 := HCAN8.out hg8
                    have HCAN8' := Lib.hid hcan8
                    clear HST HCAN8 hcan8
                    generalize canonI y8 = cp at *
                    generalize canonI (rowAt yss q) = cq at *
                    have HST2 := Lib.hid hst
                    clear hst hg8
                    go_wp2_with fail
                    go_at_call 15
                    refine (hgdq).mono ?_
                    rintro e w' ⟨rfl, hw⟩; obtain rfl := hw.symm
                    go_wp2_with fail
                    go_at_call 15
                    refine (hgd8).mono ?_
                    rintro e w' ⟨rfl, hw⟩; obtain rfl := hw.symm
                    go_wp2_with fail
                    go_at_call 18
                    refine (HCAN8'.out _ (Below.refl _ _)).mono ?_
                    rintro e w10 ⟨v10, rfl, ho10, hb10⟩
                    obtain ⟨A10, c10, rfl, _, hr10⟩ := ho10.form
                    have HR10 := Lib.hid hr10
                    clear ho10 hr10
                    go_wp2_with fail
                    go_at_call 18
                    refine (HCANQ.out _ (bstepC HBI.out hb10)).mono ?_
                    rintro e w11 ⟨v11, rfl, ho11, hb11⟩
                    obtain ⟨A11, c11, rfl, _, hr11⟩ := ho11.form
                    have hsm := same_any cp cq A10 A11 cp.length c10 cq.length c11 w11 rfl (by unfold maxLen; omega) (HR10.out.below hb11) rfl (by unfold maxLen; omega) hr11
                    have hb1011 := bstepC hb10 hb11
                    clear ho11 hr11 HR10
                    by_cases hE : cp = cq
                    · rw [decide_eq_true hE] at hsm
                      have hst := HST2.out
                      rw [decide_eq_true hE, if_pos rfl] at hst
                      have HST3 := Lib.hid hst
                      clear hE hst HST2
                      go_wp2_with fail
                      go_at_call 19
                      refine (hsm).mono ?_
                      rintro e w12 ⟨rfl, q12, rfl⟩
                      have hb12 := below_drewN hb1011 q12
                      go_wp2_with fail
                      go_roundw
                      case rel => exact ⟨p, by omega, by go_num, by rw [HST3.out]; rfl, bstepC HBI.out hb12⟩
                      case measure => first | (simp [intOf]; done) | (simp [intOf]; omega)
                    · rw [decide_eq_false hE] at hsm
                      have hst := HST2.out
                      rw [decide_eq_false hE, if_neg (by simp)] at hst
                      have HST3 := Lib.hid hst
                      clear hE hst HST2
                      go_wp2_with fail
                      go_at_call 19
                      refine (hsm).mono ?_
                      rintro e w12 ⟨rfl, q12, rfl⟩
                      have hb12 := below_drewN hb1011 q12
                      go_wp2_with fail
                      go_roundw
                      case rel => exact ⟨p, by omega, by go_num, by rw [HST3.out], bstepC HBI.out hb12⟩
                      case measure => first | (simp [intOf]; done) | (simp [intOf]; omega)
          · go_wp2_with fail
            go_ret
            exact ⟨rfl, bstepC HB2.out hbq⟩
end Go.Proofs.Ytbcabcdgblmnkaa
