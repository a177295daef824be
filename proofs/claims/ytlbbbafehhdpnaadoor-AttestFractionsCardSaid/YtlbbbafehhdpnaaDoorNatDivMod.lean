/- Contract of package nat: DivMod. -/
import Derived.Test.YtlbbbafehhdpnaaDoorNatLong
import Derived.Test.YtlbbbafehhdpnaaDoorLimbD
namespace Go.Proofs.YtlbbbafehhdpnaaDoor
open Go.RowKit
set_option linter.unusedVariables false
set_option linter.unusedSimpArgs false

theorem limbs_one (N : Nat) (h : (limbs N).length = 1) : limbs N = [N] ∧ N < 4294967296 := by
  have h0 : N ≠ 0 := fun e => by rw [e, limbs_zero] at h; simp at h
  rw [limbs_pos N h0, List.length_cons] at h
  have h1 : N / 4294967296 = 0 := Classical.byContradiction fun hne => by
    rw [limbs_pos _ hne] at h; simp at h
  rw [limbs_pos N h0, h1, limbs_zero]
  have : N < 4294967296 := by omega
  exact ⟨by rw [Nat.mod_eq_of_lt this], this⟩
set_option maxRecDepth 100000 in
set_option maxHeartbeats 4000000 in
theorem divmod_any (xs ys : List Nat) (A A2 : Option Addr) (n c n2 c2 : Nat) (w : World) (hl : xs.length = n) (hnc : n ≤ c) (hn : n ≤ 1000000000000) (hr : Rd w 1 A n (lw xs)) (hs : small xs) (hl2 : ys.length = n2) (hnc2 : n2 ≤ c2) (hn2 : n2 ≤ 1000000000000) (hr2 : Rd w 1 A2 n2 (lw ys)) (hs2 : small ys) (hpos : 0 < lv ys) :
    Calls Tryd.prog 11 #[.slice A n c, .slice A2 n2 c2] w fun e w' => ∃ q r, e = .returned (.tuple #[q, r, .bool true]) ∧ w'.ownsRow w.heap.size 25 1 q (limbs (lv xs / lv ys)).length (lw (limbs (lv xs / lv ys))) ∧ w'.ownsRow w.heap.size 25 1 r (limbs (lv xs % lv ys)).length (lw (limbs (lv xs % lv ys))) ∧ Below w.heap.size w w' := by
  have hN1 := norm_any xs A n c w hl hnc (by omega) hr hs
  have hN2 := fun W hW => norm_any ys A2 n2 c2 W hl2 hnc2 (by omega) (hr2.below hW) hs2
  have hla := Nat.le_trans (limbs_length_le xs hs) (Nat.le_of_eq hl)
  have hlb := Nat.le_trans (limbs_length_le ys hs2) (Nat.le_of_eq hl2)
  generalize lv xs = X at *
  generalize lv ys = Y at *
  obtain ⟨la, hla'⟩ : ∃ la, (limbs X).length = la := ⟨_, rfl⟩
  obtain ⟨lb, hlb'⟩ : ∃ lb, (limbs Y).length = lb := ⟨_, rfl⟩
  have hb1 := (limbs_top Y (by omega)).1
  rw [hla'] at hla hN1
  rw [hlb'] at hlb hN2 hb1
  have HN2 := Lib.hid hN2
  clear hN2 hr hs hr2 hs2 hl hl2
  go_enter Tryd.func11, Tryd.ntmps11
  go_upto_region 2 with (first | (go_at_call 39; refine hN1.mono ?_; clear hN1; rintro e w1 ⟨v1, rfl, ho1, hbl1⟩; obtain ⟨A1, c1, rfl, hc1, hr1⟩ := ownsRow_form ho1; have hcall := HN2.out w1 hbl1; have HR1 := Lib.hid hr1; have HO1 := Lib.hid ho1; clear ho1 hr1) | (go_at_call 39; refine hcall.mono ?_; clear hcall; rintro e w2 ⟨v2, rfl, ho2, hbl2⟩; obtain ⟨A3, c3, rfl, hc3, hr3⟩ := ownsRow_form ho2; have HR3 := Lib.hid hr3; have HR2 := Lib.hid (HR1.out.below hbl2); have hb12 := hbl1.trans (hbl2.mono hbl1.size); have HO2 := Lib.hid (own_below HO1.out hbl2); clear ho2 hr3))
  have HB2 := Lib.hid hb12
  clear hbl1 hbl2 hb12 HR1 HO1 HN2
  have hcmp := lcmp_any (limbs X) (limbs Y) A1 A3 la c1 lb c3 w2 hla' hc1 (by omega) HR2.out (limbs_small X) hlb' hc3 (by omega) HR3.out (limbs_small Y)
  rw [lv_limbs, lv_limbs] at hcmp
  have hz : ((lb : Int) == 0) = false := by rw [beq_eq_false_iff_ne]; omega
  by_cases hlt : X < Y
  · rw [cmp_lt hlt] at hcmp
    have hd : X / Y = 0 := Nat.div_eq_of_lt hlt
    have hm : X % Y = X := Nat.mod_eq_of_lt hlt
    have HD := Lib.hid hd
    have HM := Lib.hid hm
    clear hd hm hlt
    go_wp2_with (go_at_call 14; refine hcmp.mono ?_; clear hcmp; rintro e w3 ⟨rfl, q3, hw3⟩)
    go_ret3
    refine ⟨_, _, rfl, by rw [HD.out, limbs_zero]; exact World.ownsRow_nil _ _ _ _, ?_, ?_⟩
    · rw [HM.out, hla']; exact HO2.out
    · exact below_drewN HB2.out q3
  · have hge : ¬ (cmpN X Y < 0) := by
      unfold cmpN; rw [if_neg hlt]; split <;> omega
    have hYX : Y ≤ X := by omega
    have HYX := Lib.hid hYX
    obtain ⟨cv, hcv⟩ : ∃ cv, cmpN X Y = cv := ⟨_, rfl⟩
    rw [hcv] at hge hcmp
    clear hlt hYX hcv
    by_cases h1 : lb = 1
    · subst h1
      obtain ⟨hY1, hY2⟩ := limbs_one Y hlb'
      rw [hY1] at HR3
      have hdw := fun q => divw_any (limbs X) A1 la c1 Y (w2.drewN q) hla' hc1 (by omega) HR2.out (limbs_small X) hpos hY2
      rw [lv_limbs] at hdw
      have hmd : X % Y < Y := Nat.mod_lt _ hpos
      have hwd := fun W => word_any (X % Y) W (by omega)
      obtain ⟨b3, o3, u3, rfl, hu3, x3⟩ := HR3.out.at_ (k := 0) (by omega)
      simp only [lw, List.map_cons, List.getElem?_cons_zero] at hu3
      injection hu3 with hu3
      subst hu3
      rw [Nat.add_zero] at x3
      generalize hmm : X % Y = M at *
      have HDW := Lib.hid hdw
      have HWD := Lib.hid hwd
      have HMM := Lib.hid hmm
      clear hdw hwd hY1 hmm
      go_upto_region 7 with (go_at_call 14; refine hcmp.mono ?_; clear hcmp; rintro e w3 ⟨rfl, q3, rfl⟩)
      have hcall := HDW.out q3
      go_upto_region 8 with (go_at_call 40; refine hcall.mono ?_; clear hcall; rintro e w4 ⟨v4, rfl, ho4, hb4⟩)
      have HO4 := Lib.hid ho4
      have hb4' : Below w.heap.size w w4 := (below_drewN HB2.out q3).trans (hb4.mono HB2.out.size)
      have HB4 := Lib.hid hb4'
      clear ho4 hb4 hb4'
      have hM : M < 4294967296 := by omega
      go_wp2_with (go_at_call 37; refine (HWD.out _).mono ?_; rintro e w5 ⟨v5, rfl, ho5, hb5⟩)
      go_ret3
      exact ⟨_, _, rfl, own_below (own_more HO4.out HB2.out.size) hb5, by rw [HMM.out]; exact own_more ho5 HB4.out.size, HB4.out.trans (hb5.mono HB4.out.size)⟩
    · obtain ⟨k, rfl⟩ : ∃ k, lb = k + 2 := ⟨lb - 2, by omega⟩
      have hz2 : ((k : Int) + 2 == 1) = false := by rw [beq_eq_false_iff_ne]; omega
      have hlg := fun q => long_any X Y k la c1 c3 A1 A3 (w2.drewN q) HYX.out hla' hc1 (by omega) HR2.out hlb' hc3 HR3.out
      have HLG := Lib.hid hlg
      clear hlg
      go_upto_region 9 with (go_at_call 14; refine hcmp.mono ?_; clear hcmp; rintro e w3 ⟨rfl, q3, rfl⟩)
      have hcall := HLG.out q3
      go_wp2_with (go_at_call 41; refine hcall.mono ?_; clear hcall; rintro e w4 ⟨q4, r4, rfl, ho4, ho5, hb4⟩)
      go_ret3
      exact ⟨_, _, rfl, own_more ho4 HB2.out.size, own_more ho5 HB2.out.size, (below_drewN HB2.out q3).trans (hb4.mono HB2.out.size)⟩
end Go.Proofs.YtlbbbafehhdpnaaDoor
