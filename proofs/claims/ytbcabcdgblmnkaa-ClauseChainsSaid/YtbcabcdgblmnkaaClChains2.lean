/- The law ClauseChains. -/
import Derived.Test.YtbcabcdgblmnkaaClChains
namespace Go.Proofs.Ytbcabcdgblmnkaa
open Go.RowKit
set_option linter.unusedVariables false
set_option linter.unusedSimpArgs false

theorem now_sound {now ys : List Int} {m : Nat} {vals : List Bool} (h : Now now m) (hy : ∀ l ∈ ys, IsLit l) (h0 : (resC now (canonI ys)).2.2 = 0) (h1 : now.any (holdL vals) = true) (h2 : ys.any (holdL vals) = true) : (resC now (canonI ys)).1.any (holdL vals) = true := by
  obtain ⟨l, hop, e⟩ := resC_zero h0
  rw [e]
  have hid := canonI_id now h.strict
  have := res_sound now ys vals l (h.lits l (opp_mem hop).1) (by rw [hid]; exact hop) h1 h2
  rw [hid] at this
  exact this
theorem now_on {now ys : List Int} {m : Nat} (h : Now now m) : (resC now (canonI ys)).2.2 = 0 ∧ (resC now (canonI ys)).2.1 ≠ 0 ∨ (resC now (canonI ys)) = ([], 0, 6) := by
  rcases resC_cases now (canonI ys) with e | ⟨l, h1, e⟩
  · exact .inr e
  · exact .inl ⟨by rw [e], by rw [e]; exact (h.lits l (opp_mem h1).1).1⟩
set_option maxRecDepth 100000 in
set_option maxHeartbeats 8000000 in
theorem chains_law {w : World} (A : Option Addr) (n c : Nat) (xss : List (List Int)) (vs : List Value) (hl : xss.length = n) (hnc : n ≤ c) (hc : c ≤ maxLen) (hr : Rd w 1 A n vs) (hmat : MatI w vs xss) (hwf : ∀ xs ∈ xss, ∀ l ∈ xs, IsI64 l)
    (A2 : Option Addr) (n2 c2 : Nat) (vals : List Bool) (hl2 : vals.length = n2) (hnc2 : n2 ≤ c2) (hc2 : c2 * 1 ≤ 140737488351232) (hr2 : Rd w 1 A2 n2 (boolL vals)) :
    Calls Try.prog 6 #[.slice A n c, .slice A2 n2 c2] w fun e w' => e = .returned (.bool true) ∧ Below w.heap.size w w' := by
  obtain ⟨i0, hi, hz0, hz1, hz2⟩ := info_parts info_row
  have hyl := takeF_len xss 12
  have hys := takeF_small xss 12
  have hyi := takeF_i64 xss 12 hwf
  have hT := takeF_snoc xss
  have haw := cawake_any
  unfold maxLen at hc
  have hT12 : takeF xss (min 12 n) = takeF xss 12 := by
    unfold takeF
    rcases Nat.le_total 12 n with h | h
    · rw [Nat.min_eq_left h]
    · rw [Nat.min_eq_right h, List.take_of_length_le (by omega), List.take_of_length_le (by omega)]
  rw [hl] at hyl
  generalize hk : min 12 n = k at *
  have hk1 : k ≤ 12 := by omega
  have hk2 : k ≤ n := by omega
  have hk3 : k = 12 ∨ k = n := by omega
  clear hk
  have HR := Lib.hid hr
  have HM := Lib.hid hmat
  have HR2 := Lib.hid hr2
  have HAW := Lib.hid haw
  have HT := Lib.hid hT
  have HT12 := Lib.hid hT12
  have HYS := Lib.hid hys
  have HYI := Lib.hid hyi
  have HYL := Lib.hid hyl
  have HWF := Lib.hid hwf
  clear hr hmat hr2 haw hT hys hyi hyl hwf hT12
  go_enter Try.func6, Try.ntmps6
  go_wp2_with fail
  go_loopw [5, 6, 8] (fun y g x wr => ∃ (i : Nat) (us : List Value), i ≤ k ∧ x = .int .i64 i ∧ g = .bool ((takeF xss i).all goodB) ∧ InS w wr y us (takeF xss i)) (fun _ _ x _ => k - (intOf x).toNat)
  case atStart => exact ⟨0, [], Nat.zero_le _, rfl, rfl, InS.nil w w 0 (Below.refl _ _)⟩
  case round =>
    obtain ⟨i, us, hi', rfl, rfl, hin⟩ := hrel
    by_cases hlt : i < k
    · have hin1 : (i : Int) < (n : Int) := by omega
      have hin2 : (i : Int) < 12 := by omega
      obtain ⟨b, off, A', c', rfl, hcell, hc1, hcx2, hrd⟩ := (HM.out.below hin.bel).at_ (HR.out.below hin.bel) i (by omega)
      have hmem := getDL_mem xss i (by omega)
      have hii := few_i64 (HWF.out _ hmem)
      have hsn := HT.out i (by omega)
      have hys60 := few_len (xss.getD i [])
      generalize xss.getD i [] = x at *
      have hfew := few_any x A' x.length c' wr rfl hc1 hcx2 hrd
      have hol := hin.own
      generalize hyss : takeF xss i = yss at *
      have hul : us.length = i := by rw [hin.len, ← hyss, takeF_len]; omega
      have HSN := Lib.hid hsn
      have HIN := Lib.hid hin
      have HYSS := Lib.hid hyss
      clear hsn hin hyss hmem hol hrd hc1 hcx2
      go_wp2_with fail
      go_at_call 13
      refine (hfew).mono ?_
      rintro e w1 ⟨v1, rfl, ho1, hb1⟩
      have hin1' := HIN.out.below hb1
      have hrow := ho1.row.more HIN.out.bel.size
      generalize x.take 60 = y at *
      obtain ⟨A4, c4, rfl⟩ := hrow.form
      have HIN1 := Lib.hid hin1'
      have HROW := Lib.hid hrow
      clear ho1 hin1' hrow
      go_wp2_with (at_builtin; refine app1 w.heap.size w w1 (.slice A4 y.length c4) 22 rfl (.tmp 26) (.tmp 32) 39 rfl i0 (.slice none 0 0) 24 Try.underlying39 hi hz0 hz1 hz2 rfl (by decide) _ us.length us rfl (Nat.le_refl _) HIN1.out.own HIN1.out.bel rfl rfl (by omega) ?_)
      intro v2 w2 hown2 hb2 hg2
      have hin2' := HIN1.out.snoc HROW.out hg2 hown2 hb2 (by rw [hul])
      have hrow2 := hin2'.rows i (.slice A4 y.length c4) y (by rw [List.getElem?_append_right (by omega), hul, Nat.sub_self]; rfl) (by rw [List.getElem?_append_right (by rw [← HIN1.out.len]; omega), ← HIN1.out.len, hul, Nat.sub_self]; rfl)
      have hyy : (yss ++ [y]).length = i + 1 := by rw [List.length_append, ← HIN1.out.len, hul]; rfl
      obtain ⟨A6, c6, rfl, hnc6, hcm6, hr6, hm6⟩ := hin2'.mat
      rw [hyy] at hnc6 hr6 ⊢
      obtain ⟨b6, off6, u6, rfl, hu6, hc6⟩ := hr6.at_ (show i < i + 1 by omega)
      rw [List.getElem?_append_right (by omega), hul, Nat.sub_self] at hu6
      injection hu6 with hu6
      subst hu6
      have hgd := goodR y A4 c4 _ w2 hys60 hrow2
      have hall : (takeF xss (i + 1)).all goodB = (yss.all goodB && goodB y) := by rw [HSN.out]; simp
      have HIN2 := Lib.hid hin2'
      have HALL := Lib.hid hall
      have HYY := Lib.hid hyy
      clear hin2' hall hrow2 hr6 hm6 hown2 hg2 hb2 hyy
      generalize yss.all goodB = ga at *
      generalize goodB y = gy at *
      cases ga with
      | true =>
        go_wp2_with (go_at_call 15; refine hgd.mono ?_; rintro e w' ⟨rfl, hw⟩; obtain rfl := hw.symm)
        go_roundw
        case rel => exact ⟨i + 1, us ++ [.slice A4 y.length c4], by omega, by go_num, by rw [HALL.out]; simp, by rw [HSN.out, ← HYY.out]; exact HIN2.out⟩
        case measure => simp [intOf]; omega
      | false =>
        go_wp2_with fail
        go_roundw
        case rel => exact ⟨i + 1, us ++ [.slice A4 y.length c4], by omega, by go_num, by rw [HALL.out]; simp, by rw [HSN.out, ← HYY.out]; exact HIN2.out⟩
        case measure => simp [intOf]; omega
    · obtain rfl : i = k := by omega
      have hcond : ¬ (i : Int) < (n : Int) ∨ ((i : Int) < (n : Int) ∧ ¬ (i : Int) < 12) := by omega
      rw [HT12.out] at hin ⊢
      have hyl2 := HYL.out
      have hys2 := HYS.out
      have hyi2 := HYI.out
      clear HT HT12 HYL HYS HYI
      generalize takeF xss 12 = yss at *
      obtain ⟨A5, c5, rfl, hnc5, hcm5, hr5, hm5⟩ := hin.mat
      have hch := chain_any yss us A5 yss.length c5 wr rfl (by omega) hnc5 hcm5 hr5 hm5 hys2 hyi2
      have HB := Lib.hid hin.bel
      have HR5 := Lib.hid hr5
      have HM5 := Lib.hid hm5
      clear hin hr5 hm5
      unfold maxLen at hcm5
      rcases hcond with hcn | ⟨hcn, hcm⟩
      · rcases yss with _ | ⟨x0, r⟩
        ·
          have hc0 : chainP [] = ([], 1) := rfl
          rw [hc0] at hch
          obtain rfl : i = 0 := by simpa using hyl2.symm
          rw [List.all_nil]
          simp only [List.length_nil] at hch hnc5 ⊢
          clear hyl2 hk3
          go_wp2_with fail
          go_at_call 23
          refine (hch).mono ?_
          rintro e w1 ⟨v1, rfl, ho1, hb1⟩
          obtain ⟨A1, c1, rfl⟩ := ho1.form
          have HB1 := Lib.hid (bstepC HB.out hb1)
          clear ho1 hb1
          go_wp2_with fail
          go_at_call 16
          refine (HAW.out _).mono ?_
          rintro e w10 ⟨rfl, hb10⟩
          go_wp2_with fail
          go_ret
          exact ⟨by simp, bstepC HB1.out hb10⟩
        ·
          have hlen : (x0 :: r).length = i := hyl2
          have hi0 : ¬ (i : Int) = 0 := by rw [← hlen]; simp; omega
          have hi0' : ((i : Int) == 0) = false := by simpa using hi0
          rw [hlen] at hnc5 hch ⊢
          cases hall : (x0 :: r).all goodB with
          | false =>
            have hc0 : chainP (x0 :: r) = ([], 4) := by rw [chainP, if_neg (by rw [hall]; simp)]
            rw [hc0] at hch
            simp only at hch
            go_wp2_with fail
            go_at_call 23
            refine (hch).mono ?_
            rintro e w1 ⟨v1, rfl, ho1, hb1⟩
            obtain ⟨A1, c1, rfl⟩ := ho1.form
            have HB1 := Lib.hid (bstepC HB.out hb1)
            clear ho1 hb1
            go_wp2_with fail
            go_at_call 16
            refine (HAW.out _).mono ?_
            rintro e w10 ⟨rfl, hb10⟩
            go_wp2_with fail
            go_ret
            exact ⟨by simp, bstepC HB1.out hb10⟩
          | true =>
            have hc0 : chainP (x0 :: r) = chainF (canonI x0) r := by rw [chainP, if_pos hall]
            rw [hc0] at hch
            generalize hR : chainF (canonI x0) r = R at *
            obtain ⟨rl, re⟩ := R
            simp only at hch
            have hlits : ∀ y ∈ x0 :: r, ∀ l ∈ y, IsLit l := fun y hy => good_lit (List.all_eq_true.1 hall y hy) (hyi2 y hy)
            have hgds : ∀ y ∈ x0 :: r, goodB y = true := fun y hy => List.all_eq_true.1 hall y hy
            have HLITS := Lib.hid hlits
            have HR0 := Lib.hid hR
            clear hc0 hall hR hlits hgds
            go_wp2_with fail
            go_at_call 23
            refine (hch).mono ?_
            rintro e w1 ⟨v1, rfl, ho1, hb1⟩
            obtain ⟨A1, c1, rfl⟩ := ho1.form
            have HB1 := Lib.hid (bstepC HB.out hb1)
            have HO1 := Lib.hid ho1
            have HR1 := Lib.hid (HR5.out.below hb1)
            have HM1 := Lib.hid (HM5.out.below hb1)
            rw [hlen] at HR1
            clear ho1 hb1 HR5 HM5 hch
            obtain ⟨b, off, A0, c0, e5, hcell0, hc01, hc02, hrd0⟩ := HM1.out.at_ HR1.out 0 (by omega)
            subst e5
            rw [Nat.add_zero] at hcell0
            have e0 : (x0 :: r).getD 0 [] = x0 := rfl
            rw [e0] at hcell0 hc01 hrd0
            have hx0 := hys2 x0 (by simp)
            have hcan := canonR_any x0 A0 x0.length c0 w1 rfl (by omega) hrd0 (HLITS.out x0 (by simp))
            have HCAN := Lib.hid hcan
            clear hcan hrd0 e0
            go_wp2_with fail
            go_at_call 18
            refine (HCAN.out).mono ?_
            rintro e w3 ⟨v3, rfl, ho3, hb3⟩
            have hnow0 : Now (canonI x0) (60 * 1) := by
              have := Now.canon (HLITS.out x0 (by simp))
              exact ⟨this.strict, this.lits, Nat.le_trans this.len (by omega)⟩
            have HO3 := Lib.hid (ho3.row.more HB1.out.size)
            have HB3 := Lib.hid hb3
            have HN0 := Lib.hid hnow0
            clear ho3 hb3 hnow0 hcell0
            go_wp2_with fail
            go_loopw [7, 11, 78] (fun g y x wr => ∃ (j : Nat) (now : List Int) (al : Bool), j ≤ i ∧ x = .int .i64 j ∧ g = .bool al ∧ RowI wr w.heap.size y now ∧ Now now (60 * (max j 1)) ∧ chainF now ((x0 :: r).drop (max j 1)) = (rl, re) ∧ (j = 0 → now = canonI x0) ∧ (0 < j → al = true → now.any (holdL vals) = true) ∧ Below w1.heap.size w1 wr) (fun _ _ x _ => i - (intOf x).toNat)
            case atStart => exact ⟨0, canonI x0, true, Nat.zero_le _, rfl, rfl, HO3.out, HN0.out, HR0.out, fun _ => rfl, fun h => by omega, HB3.out⟩
            case round =>
              obtain ⟨j, now, al, hj', rfl, rfl, hrow, hnow, hch, hn0e, hsnd, hbj⟩ := hrel
              obtain ⟨A8, c8, rfl, hn8, hc8, hr8⟩ := hrow.rd
              have hvr := HR2.out.below (bstepC HB1.out hbj)
              by_cases hlt2 : j < i
              · obtain ⟨b3, off3, A3, c3, e3, hcell3, hc31, hc32, hrd3⟩ := (HM1.out.below hbj).at_ (HR1.out.below hbj) j hlt2
                injection e3 with e3
                injection e3 with e31 e32
                subst e31 e32
                have hmem := getDL_mem (x0 :: r) j (by rw [hlen]; exact hlt2)
                have hsz3 := hys2 _ hmem
                have hlit3 := HLITS.out _ hmem
                have hd3 := drop_getL (x0 :: r) j (by rw [hlen]; exact hlt2)
                have hg0 : j = 0 → (x0 :: r).getD j [] = x0 := fun e => by rw [e]; rfl
                generalize (x0 :: r).getD j [] = y at *
                have hhol := holdsR_any y A3 y.length c3 vals A2 n2 c2 wr rfl (by unfold maxLen; omega) hrd3 hlit3 hl2 (by unfold maxLen; omega) hvr
                have hcany := canonR_any y A3 y.length c3 wr rfl (by omega) hrd3 hlit3
                have hcyl := canonI_len y
                have hnl := hnow.len
                have hmx : max j 1 ≤ 12 := by omega
                have HD3 := Lib.hid hd3
                have HLIT3 := Lib.hid hlit3
                have HNOW := Lib.hid hnow
                have HROW := Lib.hid hrow
                have HSND := Lib.hid hsnd
                have HCH := Lib.hid hch
                have HBJ := Lib.hid hbj
                have HG0 := Lib.hid hg0
                have HN0E := Lib.hid hn0e
                have HCANY := Lib.hid hcany
                clear hnow hrow hsnd hch hbj hg0 hd3 hlit3 hn0e hcany hmem hvr hr8 hrd3
                have hu : ∃ u, y.any (holdL vals) = u := ⟨_, rfl⟩
                obtain ⟨u, hu⟩ := hu
                rw [hu] at hhol
                have HU := Lib.hid hu
                clear hu
                cases al with
                | true =>
                  by_cases hj0 : j = 0
                  · obtain rfl := HG0.out hj0
                    have hj0' : ((j : Int) == 0) = true := by simpa using hj0
                    have HJ0 := Lib.hid hj0
                    clear hj0
                    go_wp2_with fail
                    go_at_call 20
                    refine (hhol).mono ?_
                    rintro e w' ⟨rfl, hw⟩; obtain rfl := hw.symm
                    go_wp2_with fail
                    go_roundw
                    case rel => exact ⟨j + 1, now, u, by omega, by go_num, rfl, HROW.out, by rw [show max (j + 1) 1 = max j 1 by have := HJ0.out; omega]; exact HNOW.out, by rw [show max (j + 1) 1 = max j 1 by have := HJ0.out; omega]; exact HCH.out, fun h => by omega, fun _ hu => by rw [HN0E.out HJ0.out, canon_holds]; first | (cases hu; done) | (exact HU.out.trans hu), HBJ.out⟩
                    case measure => simp [intOf]; omega
                  · have hj0' : ((j : Int) == 0) = false := by simpa using hj0
                    have HSN2 := Lib.hid (HSND.out (by omega) rfl)
                    go_wp2_with fail
                    go_at_call 20
                    refine (hhol).mono ?_
                    rintro e w' ⟨rfl, hw⟩; obtain rfl := hw.symm
                    go_wp2_with fail
                    go_at_call 18
                    refine (HCANY.out).mono ?_
                    rintro e w5 ⟨v5, rfl, ho5, hb5⟩
                    obtain ⟨A7, c7, rfl⟩ := ho5.row.form
                    have hres := resolveR_any now (canonI y) A8 A7 c8 c7 w5 (by omega) (HROW.out.below hb5).rd2.2.2 HNOW.out.lits (by omega) ho5.row.rd2.2.2 (canon_lits HLIT3.out)
                    have hon := now_on (ys := y) HNOW.out
                    have hsd : (resC now (canonI y)).2.2 = 0 → now.any (holdL vals) = true → y.any (holdL vals) = true → (resC now (canonI y)).1.any (holdL vals) = true := fun h0 h1 h2 => now_sound HNOW.out HLIT3.out h0 h1 h2
                    have hnx : (resC now (canonI y)).2.2 = 0 → Now (resC now (canonI y)).1 (60 * (max (j + 1) 1)) := fun h0 => by
                      have h := HNOW.out.res HLIT3.out h0
                      exact ⟨h.strict, h.lits, Nat.le_trans h.len (by omega)⟩
                    have hch := HCH.out
                    rw [Nat.max_eq_left (show 1 ≤ j by omega), HD3.out, chainF] at hch
                    have hmx1 : max (j + 1) 1 = j + 1 := by omega
                    generalize resC now (canonI y) = RC at *
                    obtain ⟨nl, on, er⟩ := RC
                    simp only at hres hon hsd hnx hch
                    have HRES := Lib.hid hres
                    have HSD := Lib.hid hsd
                    have HNX := Lib.hid hnx
                    have HC5 := Lib.hid hch
                    have HB5 := Lib.hid (bstepC HBJ.out hb5)
                    clear hres hsd hnx hch ho5 hb5
                    rcases hon with ⟨h0, hne⟩ | hz
                    · subst h0
                      have hne' : (on == 0) = false := by simpa using hne
                      have HNX2 := Lib.hid (HNX.out rfl)
                      have HSD2 := Lib.hid (fun h1 h2 => HSD.out rfl h1 h2)
                      have HC6 := Lib.hid (show chainF nl (List.drop (j + 1) (x0 :: r)) = (rl, re) by have h := HC5.out; rw [if_pos rfl] at h; exact h)
                      clear HNX HSD HC5
                      go_wp2_with fail
                      go_at_call 17
                      refine (HRES.out).mono ?_
                      rintro e w6 ⟨v6, rfl, ho6, hb6⟩
                      have HO6 := Lib.hid (ho6.more (Nat.le_trans HB1.out.size HB5.out.size))
                      have HB6 := Lib.hid (bstepC HB5.out hb6)
                      clear ho6 hb6
                      go_wp2_with fail
                      go_roundw
                      case rel => exact ⟨j + 1, nl, u, by omega, by go_num, rfl, HO6.out, HNX2.out, by rw [hmx1]; exact HC6.out, fun h => by omega, fun _ hu => HSD2.out (HSN2.out) (by first | (cases hu; done) | exact HU.out.trans hu), HB6.out⟩
                      case measure => simp [intOf]; omega
                    · injection hz with z1 z2
                      injection z2 with z2 z3
                      subst z1 z2 z3
                      have h := HC5.out
                      rw [if_neg (by decide)] at h
                      injection h with e1 e2
                      subst e1 e2
                      go_wp2_with fail
                      go_at_call 17
                      refine (HRES.out).mono ?_
                      rintro e w6 ⟨v6, rfl, ho6, hb6⟩
                      have HB6 := Lib.hid (bstepC HB5.out hb6)
                      clear ho6 hb6
                      go_wp2_with fail
                      go_at_call 16
                      refine (HAW.out _).mono ?_
                      rintro e w10 ⟨rfl, hb10⟩
                      go_wp2_with fail
                      go_ret
                      exact ⟨by simp, bstepC (bstepC HB1.out HB6.out) hb10⟩
                | false =>
                  clear hhol
                  by_cases hj0 : j = 0
                  · have hj0' : ((j : Int) == 0) = true := by simpa using hj0
                    have HJ0 := Lib.hid hj0
                    clear hj0
                    go_wp2_with fail
                    go_roundw
                    case rel => exact ⟨j + 1, now, false, by omega, by go_num, rfl, HROW.out, by rw [show max (j + 1) 1 = max j 1 by have := HJ0.out; omega]; exact HNOW.out, by rw [show max (j + 1) 1 = max j 1 by have := HJ0.out; omega]; exact HCH.out, fun h => by omega, fun _ hu => by rw [HN0E.out HJ0.out, canon_holds]; first | (cases hu; done) | (exact HU.out.trans hu), HBJ.out⟩
                    case measure => simp [intOf]; omega
                  · have hj0' : ((j : Int) == 0) = false := by simpa using hj0
                    go_wp2_with fail
                    go_at_call 18
                    refine (HCANY.out).mono ?_
                    rintro e w5 ⟨v5, rfl, ho5, hb5⟩
                    obtain ⟨A7, c7, rfl⟩ := ho5.row.form
                    have hres := resolveR_any now (canonI y) A8 A7 c8 c7 w5 (by omega) (HROW.out.below hb5).rd2.2.2 HNOW.out.lits (by omega) ho5.row.rd2.2.2 (canon_lits HLIT3.out)
                    have hon := now_on (ys := y) HNOW.out
                    have hsd : (resC now (canonI y)).2.2 = 0 → now.any (holdL vals) = true → y.any (holdL vals) = true → (resC now (canonI y)).1.any (holdL vals) = true := fun h0 h1 h2 => now_sound HNOW.out HLIT3.out h0 h1 h2
                    have hnx : (resC now (canonI y)).2.2 = 0 → Now (resC now (canonI y)).1 (60 * (max (j + 1) 1)) := fun h0 => by
                      have h := HNOW.out.res HLIT3.out h0
                      exact ⟨h.strict, h.lits, Nat.le_trans h.len (by omega)⟩
                    have hch := HCH.out
                    rw [Nat.max_eq_left (show 1 ≤ j by omega), HD3.out, chainF] at hch
                    have hmx1 : max (j + 1) 1 = j + 1 := by omega
                    generalize resC now (canonI y) = RC at *
                    obtain ⟨nl, on, er⟩ := RC
                    simp only at hres hon hsd hnx hch
                    have HRES := Lib.hid hres
                    have HSD := Lib.hid hsd
                    have HNX := Lib.hid hnx
                    have HC5 := Lib.hid hch
                    have HB5 := Lib.hid (bstepC HBJ.out hb5)
                    clear hres hsd hnx hch ho5 hb5
                    rcases hon with ⟨h0, hne⟩ | hz
                    · subst h0
                      have hne' : (on == 0) = false := by simpa using hne
                      have HNX2 := Lib.hid (HNX.out rfl)
                      have HSD2 := Lib.hid (fun h1 h2 => HSD.out rfl h1 h2)
                      have HC6 := Lib.hid (show chainF nl (List.drop (j + 1) (x0 :: r)) = (rl, re) by have h := HC5.out; rw [if_pos rfl] at h; exact h)
                      clear HNX HSD HC5
                      go_wp2_with fail
                      go_at_call 17
                      refine (HRES.out).mono ?_
                      rintro e w6 ⟨v6, rfl, ho6, hb6⟩
                      have HO6 := Lib.hid (ho6.more (Nat.le_trans HB1.out.size HB5.out.size))
                      have HB6 := Lib.hid (bstepC HB5.out hb6)
                      clear ho6 hb6
                      go_wp2_with fail
                      go_roundw
                      case rel => exact ⟨j + 1, nl, false, by omega, by go_num, rfl, HO6.out, HNX2.out, by rw [hmx1]; exact HC6.out, fun h => by omega, fun _ hu => HSD2.out ((by cases hu)) (by first | (cases hu; done) | exact HU.out.trans hu), HB6.out⟩
                      case measure => simp [intOf]; omega
                    · injection hz with z1 z2
                      injection z2 with z2 z3
                      subst z1 z2 z3
                      have h := HC5.out
                      rw [if_neg (by decide)] at h
                      injection h with e1 e2
                      subst e1 e2
                      go_wp2_with fail
                      go_at_call 17
                      refine (HRES.out).mono ?_
                      rintro e w6 ⟨v6, rfl, ho6, hb6⟩
                      have HB6 := Lib.hid (bstepC HB5.out hb6)
                      clear ho6 hb6
                      go_wp2_with fail
                      go_at_call 16
                      refine (HAW.out _).mono ?_
                      rintro e w10 ⟨rfl, hb10⟩
                      go_wp2_with fail
                      go_ret
                      exact ⟨by simp, bstepC (bstepC HB1.out HB6.out) hb10⟩
              · obtain rfl : j = i := by omega
                rw [List.drop_of_length_le (by rw [hlen]; omega), chainF] at hch
                injection hch with e1 e2
                subst e1 e2
                have hvr2 := HR2.out
                have HSND := Lib.hid (hsnd (by omega))
                have HNOW := Lib.hid hnow
                have HROW := Lib.hid hrow
                have HBJ := Lib.hid hbj
                have hnl := hnow.len
                have hmx : max j 1 ≤ 12 := by omega
                clear hsnd hnow hrow hbj hn0e hr8 hvr hvr2
                go_wp2_with fail
                go_at_call 16
                refine (HAW.out _).mono ?_
                rintro e w10 ⟨rfl, hb10⟩
                have hb110 := bstepC HBJ.out hb10
                have hr1 := (HO1.out.below hb110).rd2.2.2
                have hr8 := (HROW.out.below hb10).rd2.2.2
                have hsm := same_any now now A1 A8 now.length c1 now.length c8 w10 rfl (by unfold maxLen; omega) hr1 rfl (by unfold maxLen; omega) hr8
                rw [decide_eq_true rfl] at hsm
                clear hr1 hr8
                go_wp2_with fail
                go_at_call 19
                refine (hsm).mono ?_
                rintro e w12 ⟨rfl, q12, rfl⟩
                have hb112 := below_drewN hb110 q12
                have hbend := bstepC HB1.out hb112
                cases al with
                | false =>
                  go_wp2_with fail
                  go_ret
                  exact ⟨by simp, hbend⟩
                | true =>
                  have hhl := holdsR_any now A1 now.length c1 vals A2 n2 c2 (w10.drewN q12) rfl (by unfold maxLen; omega) (HO1.out.below hb112).rd2.2.2 HNOW.out.lits hl2 (by unfold maxLen; omega) (HR2.out.below hbend)
                  rw [HSND.out rfl] at hhl
                  go_wp2_with fail
                  go_at_call 20
                  refine (hhl).mono ?_
                  rintro e w' ⟨rfl, hw⟩; obtain rfl := hw.symm
                  go_wp2_with fail
                  go_ret
                  exact ⟨by simp, hbend⟩
      · rcases yss with _ | ⟨x0, r⟩
        · exfalso
          simp at hyl2
          omega
        ·
          have hlen : (x0 :: r).length = i := hyl2
          have hi0 : ¬ (i : Int) = 0 := by rw [← hlen]; simp; omega
          have hi0' : ((i : Int) == 0) = false := by simpa using hi0
          rw [hlen] at hnc5 hch ⊢
          cases hall : (x0 :: r).all goodB with
          | false =>
            have hc0 : chainP (x0 :: r) = ([], 4) := by rw [chainP, if_neg (by rw [hall]; simp)]
            rw [hc0] at hch
            simp only at hch
            go_wp2_with fail
            go_at_call 23
            refine (hch).mono ?_
            rintro e w1 ⟨v1, rfl, ho1, hb1⟩
            obtain ⟨A1, c1, rfl⟩ := ho1.form
            have HB1 := Lib.hid (bstepC HB.out hb1)
            clear ho1 hb1
            go_wp2_with fail
            go_at_call 16
            refine (HAW.out _).mono ?_
            rintro e w10 ⟨rfl, hb10⟩
            go_wp2_with fail
            go_ret
            exact ⟨by simp, bstepC HB1.out hb10⟩
          | true =>
            have hc0 : chainP (x0 :: r) = chainF (canonI x0) r := by rw [chainP, if_pos hall]
            rw [hc0] at hch
            generalize hR : chainF (canonI x0) r = R at *
            obtain ⟨rl, re⟩ := R
            simp only at hch
            have hlits : ∀ y ∈ x0 :: r, ∀ l ∈ y, IsLit l := fun y hy => good_lit (List.all_eq_true.1 hall y hy) (hyi2 y hy)
            have hgds : ∀ y ∈ x0 :: r, goodB y = true := fun y hy => List.all_eq_true.1 hall y hy
            have HLITS := Lib.hid hlits
            have HR0 := Lib.hid hR
            clear hc0 hall hR hlits hgds
            go_wp2_with fail
            go_at_call 23
            refine (hch).mono ?_
            rintro e w1 ⟨v1, rfl, ho1, hb1⟩
            obtain ⟨A1, c1, rfl⟩ := ho1.form
            have HB1 := Lib.hid (bstepC HB.out hb1)
            have HO1 := Lib.hid ho1
            have HR1 := Lib.hid (HR5.out.below hb1)
            have HM1 := Lib.hid (HM5.out.below hb1)
            rw [hlen] at HR1
            clear ho1 hb1 HR5 HM5 hch
            obtain ⟨b, off, A0, c0, e5, hcell0, hc01, hc02, hrd0⟩ := HM1.out.at_ HR1.out 0 (by omega)
            subst e5
            rw [Nat.add_zero] at hcell0
            have e0 : (x0 :: r).getD 0 [] = x0 := rfl
            rw [e0] at hcell0 hc01 hrd0
            have hx0 := hys2 x0 (by simp)
            have hcan := canonR_any x0 A0 x0.length c0 w1 rfl (by omega) hrd0 (HLITS.out x0 (by simp))
            have HCAN := Lib.hid hcan
            clear hcan hrd0 e0
            go_wp2_with fail
            go_at_call 18
            refine (HCAN.out).mono ?_
            rintro e w3 ⟨v3, rfl, ho3, hb3⟩
            have hnow0 : Now (canonI x0) (60 * 1) := by
              have := Now.canon (HLITS.out x0 (by simp))
              exact ⟨this.strict, this.lits, Nat.le_trans this.len (by omega)⟩
            have HO3 := Lib.hid (ho3.row.more HB1.out.size)
            have HB3 := Lib.hid hb3
            have HN0 := Lib.hid hnow0
            clear ho3 hb3 hnow0 hcell0
            go_wp2_with fail
            go_loopw [7, 11, 78] (fun g y x wr => ∃ (j : Nat) (now : List Int) (al : Bool), j ≤ i ∧ x = .int .i64 j ∧ g = .bool al ∧ RowI wr w.heap.size y now ∧ Now now (60 * (max j 1)) ∧ chainF now ((x0 :: r).drop (max j 1)) = (rl, re) ∧ (j = 0 → now = canonI x0) ∧ (0 < j → al = true → now.any (holdL vals) = true) ∧ Below w1.heap.size w1 wr) (fun _ _ x _ => i - (intOf x).toNat)
            case atStart => exact ⟨0, canonI x0, true, Nat.zero_le _, rfl, rfl, HO3.out, HN0.out, HR0.out, fun _ => rfl, fun h => by omega, HB3.out⟩
            case round =>
              obtain ⟨j, now, al, hj', rfl, rfl, hrow, hnow, hch, hn0e, hsnd, hbj⟩ := hrel
              obtain ⟨A8, c8, rfl, hn8, hc8, hr8⟩ := hrow.rd
              have hvr := HR2.out.below (bstepC HB1.out hbj)
              by_cases hlt2 : j < i
              · obtain ⟨b3, off3, A3, c3, e3, hcell3, hc31, hc32, hrd3⟩ := (HM1.out.below hbj).at_ (HR1.out.below hbj) j hlt2
                injection e3 with e3
                injection e3 with e31 e32
                subst e31 e32
                have hmem := getDL_mem (x0 :: r) j (by rw [hlen]; exact hlt2)
                have hsz3 := hys2 _ hmem
                have hlit3 := HLITS.out _ hmem
                have hd3 := drop_getL (x0 :: r) j (by rw [hlen]; exact hlt2)
                have hg0 : j = 0 → (x0 :: r).getD j [] = x0 := fun e => by rw [e]; rfl
                generalize (x0 :: r).getD j [] = y at *
                have hhol := holdsR_any y A3 y.length c3 vals A2 n2 c2 wr rfl (by unfold maxLen; omega) hrd3 hlit3 hl2 (by unfold maxLen; omega) hvr
                have hcany := canonR_any y A3 y.length c3 wr rfl (by omega) hrd3 hlit3
                have hcyl := canonI_len y
                have hnl := hnow.len
                have hmx : max j 1 ≤ 12 := by omega
                have HD3 := Lib.hid hd3
                have HLIT3 := Lib.hid hlit3
                have HNOW := Lib.hid hnow
                have HROW := Lib.hid hrow
                have HSND := Lib.hid hsnd
                have HCH := Lib.hid hch
                have HBJ := Lib.hid hbj
                have HG0 := Lib.hid hg0
                have HN0E := Lib.hid hn0e
                have HCANY := Lib.hid hcany
                clear hnow hrow hsnd hch hbj hg0 hd3 hlit3 hn0e hcany hmem hvr hr8 hrd3
                have hu : ∃ u, y.any (holdL vals) = u := ⟨_, rfl⟩
                obtain ⟨u, hu⟩ := hu
                rw [hu] at hhol
                have HU := Lib.hid hu
                clear hu
                cases al with
                | true =>
                  by_cases hj0 : j = 0
                  · obtain rfl := HG0.out hj0
                    have hj0' : ((j : Int) == 0) = true := by simpa using hj0
                    have HJ0 := Lib.hid hj0
                    clear hj0
                    go_wp2_with fail
                    go_at_call 20
                    refine (hhol).mono ?_
                    rintro e w' ⟨rfl, hw⟩; obtain rfl := hw.symm
                    go_wp2_with fail
                    go_roundw
                    case rel => exact ⟨j + 1, now, u, by omega, by go_num, rfl, HROW.out, by rw [show max (j + 1) 1 = max j 1 by have := HJ0.out; omega]; exact HNOW.out, by rw [show max (j + 1) 1 = max j 1 by have := HJ0.out; omega]; exact HCH.out, fun h => by omega, fun _ hu => by rw [HN0E.out HJ0.out, canon_holds]; first | (cases hu; done) | (exact HU.out.trans hu), HBJ.out⟩
                    case measure => simp [intOf]; omega
                  · have hj0' : ((j : Int) == 0) = false := by simpa using hj0
                    have HSN2 := Lib.hid (HSND.out (by omega) rfl)
                    go_wp2_with fail
                    go_at_call 20
                    refine (hhol).mono ?_
                    rintro e w' ⟨rfl, hw⟩; obtain rfl := hw.symm
                    go_wp2_with fail
                    go_at_call 18
                    refine (HCANY.out).mono ?_
                    rintro e w5 ⟨v5, rfl, ho5, hb5⟩
                    obtain ⟨A7, c7, rfl⟩ := ho5.row.form
                    have hres := resolveR_any now (canonI y) A8 A7 c8 c7 w5 (by omega) (HROW.out.below hb5).rd2.2.2 HNOW.out.lits (by omega) ho5.row.rd2.2.2 (canon_lits HLIT3.out)
                    have hon := now_on (ys := y) HNOW.out
                    have hsd : (resC now (canonI y)).2.2 = 0 → now.any (holdL vals) = true → y.any (holdL vals) = true → (resC now (canonI y)).1.any (holdL vals) = true := fun h0 h1 h2 => now_sound HNOW.out HLIT3.out h0 h1 h2
                    have hnx : (resC now (canonI y)).2.2 = 0 → Now (resC now (canonI y)).1 (60 * (max (j + 1) 1)) := fun h0 => by
                      have h := HNOW.out.res HLIT3.out h0
                      exact ⟨h.strict, h.lits, Nat.le_trans h.len (by omega)⟩
                    have hch := HCH.out
                    rw [Nat.max_eq_left (show 1 ≤ j by omega), HD3.out, chainF] at hch
                    have hmx1 : max (j + 1) 1 = j + 1 := by omega
                    generalize resC now (canonI y) = RC at *
                    obtain ⟨nl, on, er⟩ := RC
                    simp only at hres hon hsd hnx hch
                    have HRES := Lib.hid hres
                    have HSD := Lib.hid hsd
                    have HNX := Lib.hid hnx
                    have HC5 := Lib.hid hch
                    have HB5 := Lib.hid (bstepC HBJ.out hb5)
                    clear hres hsd hnx hch ho5 hb5
                    rcases hon with ⟨h0, hne⟩ | hz
                    · subst h0
                      have hne' : (on == 0) = false := by simpa using hne
                      have HNX2 := Lib.hid (HNX.out rfl)
                      have HSD2 := Lib.hid (fun h1 h2 => HSD.out rfl h1 h2)
                      have HC6 := Lib.hid (show chainF nl (List.drop (j + 1) (x0 :: r)) = (rl, re) by have h := HC5.out; rw [if_pos rfl] at h; exact h)
                      clear HNX HSD HC5
                      go_wp2_with fail
                      go_at_call 17
                      refine (HRES.out).mono ?_
                      rintro e w6 ⟨v6, rfl, ho6, hb6⟩
                      have HO6 := Lib.hid (ho6.more (Nat.le_trans HB1.out.size HB5.out.size))
                      have HB6 := Lib.hid (bstepC HB5.out hb6)
                      clear ho6 hb6
                      go_wp2_with fail
                      go_roundw
                      case rel => exact ⟨j + 1, nl, u, by omega, by go_num, rfl, HO6.out, HNX2.out, by rw [hmx1]; exact HC6.out, fun h => by omega, fun _ hu => HSD2.out (HSN2.out) (by first | (cases hu; done) | exact HU.out.trans hu), HB6.out⟩
                      case measure => simp [intOf]; omega
                    · injection hz with z1 z2
                      injection z2 with z2 z3
                      subst z1 z2 z3
                      have h := HC5.out
                      rw [if_neg (by decide)] at h
                      injection h with e1 e2
                      subst e1 e2
                      go_wp2_with fail
                      go_at_call 17
                      refine (HRES.out).mono ?_
                      rintro e w6 ⟨v6, rfl, ho6, hb6⟩
                      have HB6 := Lib.hid (bstepC HB5.out hb6)
                      clear ho6 hb6
                      go_wp2_with fail
                      go_at_call 16
                      refine (HAW.out _).mono ?_
                      rintro e w10 ⟨rfl, hb10⟩
                      go_wp2_with fail
                      go_ret
                      exact ⟨by simp, bstepC (bstepC HB1.out HB6.out) hb10⟩
                | false =>
                  clear hhol
                  by_cases hj0 : j = 0
                  · have hj0' : ((j : Int) == 0) = true := by simpa using hj0
                    have HJ0 := Lib.hid hj0
                    clear hj0
                    go_wp2_with fail
                    go_roundw
                    case rel => exact ⟨j + 1, now, false, by omega, by go_num, rfl, HROW.out, by rw [show max (j + 1) 1 = max j 1 by have := HJ0.out; omega]; exact HNOW.out, by rw [show max (j + 1) 1 = max j 1 by have := HJ0.out; omega]; exact HCH.out, fun h => by omega, fun _ hu => by rw [HN0E.out HJ0.out, canon_holds]; first | (cases hu; done) | (exact HU.out.trans hu), HBJ.out⟩
                    case measure => simp [intOf]; omega
                  · have hj0' : ((j : Int) == 0) = false := by simpa using hj0
                    go_wp2_with fail
                    go_at_call 18
                    refine (HCANY.out).mono ?_
                    rintro e w5 ⟨v5, rfl, ho5, hb5⟩
                    obtain ⟨A7, c7, rfl⟩ := ho5.row.form
                    have hres := resolveR_any now (canonI y) A8 A7 c8 c7 w5 (by omega) (HROW.out.below hb5).rd2.2.2 HNOW.out.lits (by omega) ho5.row.rd2.2.2 (canon_lits HLIT3.out)
                    have hon := now_on (ys := y) HNOW.out
                    have hsd : (resC now (canonI y)).2.2 = 0 → now.any (holdL vals) = true → y.any (holdL vals) = true → (resC now (canonI y)).1.any (holdL vals) = true := fun h0 h1 h2 => now_sound HNOW.out HLIT3.out h0 h1 h2
                    have hnx : (resC now (canonI y)).2.2 = 0 → Now (resC now (canonI y)).1 (60 * (max (j + 1) 1)) := fun h0 => by
                      have h := HNOW.out.res HLIT3.out h0
                      exact ⟨h.strict, h.lits, Nat.le_trans h.len (by omega)⟩
                    have hch := HCH.out
                    rw [Nat.max_eq_left (show 1 ≤ j by omega), HD3.out, chainF] at hch
                    have hmx1 : max (j + 1) 1 = j + 1 := by omega
                    generalize resC now (canonI y) = RC at *
                    obtain ⟨nl, on, er⟩ := RC
                    simp only at hres hon hsd hnx hch
                    have HRES := Lib.hid hres
                    have HSD := Lib.hid hsd
                    have HNX := Lib.hid hnx
                    have HC5 := Lib.hid hch
                    have HB5 := Lib.hid (bstepC HBJ.out hb5)
                    clear hres hsd hnx hch ho5 hb5
                    rcases hon with ⟨h0, hne⟩ | hz
                    · subst h0
                      have hne' : (on == 0) = false := by simpa using hne
                      have HNX2 := Lib.hid (HNX.out rfl)
                      have HSD2 := Lib.hid (fun h1 h2 => HSD.out rfl h1 h2)
                      have HC6 := Lib.hid (show chainF nl (List.drop (j + 1) (x0 :: r)) = (rl, re) by have h := HC5.out; rw [if_pos rfl] at h; exact h)
                      clear HNX HSD HC5
                      go_wp2_with fail
                      go_at_call 17
                      refine (HRES.out).mono ?_
                      rintro e w6 ⟨v6, rfl, ho6, hb6⟩
                      have HO6 := Lib.hid (ho6.more (Nat.le_trans HB1.out.size HB5.out.size))
                      have HB6 := Lib.hid (bstepC HB5.out hb6)
                      clear ho6 hb6
                      go_wp2_with fail
                      go_roundw
                      case rel => exact ⟨j + 1, nl, false, by omega, by go_num, rfl, HO6.out, HNX2.out, by rw [hmx1]; exact HC6.out, fun h => by omega, fun _ hu => HSD2.out ((by cases hu)) (by first | (cases hu; done) | exact HU.out.trans hu), HB6.out⟩
                      case measure => simp [intOf]; omega
                    · injection hz with z1 z2
                      injection z2 with z2 z3
                      subst z1 z2 z3
                      have h := HC5.out
                      rw [if_neg (by decide)] at h
                      injection h with e1 e2
                      subst e1 e2
                      go_wp2_with fail
                      go_at_call 17
                      refine (HRES.out).mono ?_
                      rintro e w6 ⟨v6, rfl, ho6, hb6⟩
                      have HB6 := Lib.hid (bstepC HB5.out hb6)
                      clear ho6 hb6
                      go_wp2_with fail
                      go_at_call 16
                      refine (HAW.out _).mono ?_
                      rintro e w10 ⟨rfl, hb10⟩
                      go_wp2_with fail
                      go_ret
                      exact ⟨by simp, bstepC (bstepC HB1.out HB6.out) hb10⟩
              · obtain rfl : j = i := by omega
                rw [List.drop_of_length_le (by rw [hlen]; omega), chainF] at hch
                injection hch with e1 e2
                subst e1 e2
                have hvr2 := HR2.out
                have HSND := Lib.hid (hsnd (by omega))
                have HNOW := Lib.hid hnow
                have HROW := Lib.hid hrow
                have HBJ := Lib.hid hbj
                have hnl := hnow.len
                have hmx : max j 1 ≤ 12 := by omega
                clear hsnd hnow hrow hbj hn0e hr8 hvr hvr2
                go_wp2_with fail
                go_at_call 16
                refine (HAW.out _).mono ?_
                rintro e w10 ⟨rfl, hb10⟩
                have hb110 := bstepC HBJ.out hb10
                have hr1 := (HO1.out.below hb110).rd2.2.2
                have hr8 := (HROW.out.below hb10).rd2.2.2
                have hsm := same_any now now A1 A8 now.length c1 now.length c8 w10 rfl (by unfold maxLen; omega) hr1 rfl (by unfold maxLen; omega) hr8
                rw [decide_eq_true rfl] at hsm
                clear hr1 hr8
                go_wp2_with fail
                go_at_call 19
                refine (hsm).mono ?_
                rintro e w12 ⟨rfl, q12, rfl⟩
                have hb112 := below_drewN hb110 q12
                have hbend := bstepC HB1.out hb112
                cases al with
                | false =>
                  go_wp2_with fail
                  go_ret
                  exact ⟨by simp, hbend⟩
                | true =>
                  have hhl := holdsR_any now A1 now.length c1 vals A2 n2 c2 (w10.drewN q12) rfl (by unfold maxLen; omega) (HO1.out.below hb112).rd2.2.2 HNOW.out.lits hl2 (by unfold maxLen; omega) (HR2.out.below hbend)
                  rw [HSND.out rfl] at hhl
                  go_wp2_with fail
                  go_at_call 20
                  refine (hhl).mono ?_
                  rintro e w' ⟨rfl, hw⟩; obtain rfl := hw.symm
                  go_wp2_with fail
                  go_ret
                  exact ⟨by simp, hbend⟩
end Go.Proofs.Ytbcabcdgblmnkaa
