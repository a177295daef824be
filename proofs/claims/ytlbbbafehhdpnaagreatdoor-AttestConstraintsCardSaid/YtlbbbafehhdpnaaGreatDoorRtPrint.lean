/- Contracts of package rtext: parts, Print. -/
import Derived.Test.YtlbbbafehhdpnaaGreatDoorRatMath
import Derived.Test.YtlbbbafehhdpnaaGreatDoorRatI
namespace Go.Proofs.YtlbbbafehhdpnaaGreatDoor
open Go.RowKit
set_option linter.unusedVariables false
set_option linter.unusedSimpArgs false


theorem dg_le (N z : Nat) (h : (limbs N).length ≤ z) : (dg N).length ≤ 32 * z + 32 := by
  rw [dg_len]
  have h1 : N < 10 ^ (32 * (z + 1)) := Nat.lt_of_lt_of_le (limbs_lt N) (Nat.le_trans (Nat.pow_le_pow_right (by decide) (by omega)) (Nat.pow_le_pow_left (by decide) _))
  have := dec_len N (32 * (z + 1)) h1 (by omega)
  omega
theorem sign_le (s : Bool) : (strB (signL s)).size ≤ 1 := by rw [strB_size]; cases s <;> simp [signL]
def lowL (q : Rat) : List UInt8 := if q.den = 1 then [] else dg q.den
set_option maxRecDepth 100000 in
set_option maxHeartbeats 4000000 in
theorem rparts_any (b1 : RB) (q : Rat) (w : World) (h1 : RatAt w b1 q) (z : Nat) (hz : z ≤ 1000000) (l1 : RatLe q z) :
    Calls Tryz.prog 50 #[b1.val (ratNeg q)] w fun e w' => e = .returned (.tuple #[.string (strB (signL (ratNeg q))), .string (strB (dg q.num.natAbs)), .string (strB (lowL q))]) ∧ Below w.heap.size w w' := by
  have hpt := fun W h => parts_any b1 q W h z hz l1
  have hwh := fun W h => whole_any (ratNeg q) b1 q W h
  obtain ⟨A, n, c, A2, n2, c2⟩ := b1
  have hpn := l1.num
  have hpd := l1.den
  unfold RB.val lowL
  unfold RB.val at hpt hwh
  simp only at hpt hwh ⊢
  generalize hs1 : ratNeg q = s1 at *
  clear hs1
  generalize q.num.natAbs = pa at *
  generalize q.den = pd at *
  have e1 : (limbs pa).length ≤ 100000000 := by omega
  have e2 : (limbs pd).length ≤ 100000000 := by omega
  have HE1 := Lib.hid e1
  have HE2 := Lib.hid e2
  clear e1 e2 hpn hpd l1
  by_cases h0 : pd = 1
  · rw [if_pos h0]
    rw [decide_eq_true h0] at hwh
    have HPT := Lib.hid hpt
    have HWH := Lib.hid hwh
    clear hpt hwh h0
    cases s1
    · skip
      go_enter Tryz.func50, Tryz.ntmps50
      go_upto_region 1 with fail
      have hx1 := heap_alloc_new w (.cells #[.bool false, .slice A n c, .slice A2 n2 c2] 33)
      have hw1 : (w.alloc (.cells #[.bool false, .slice A n c, .slice A2 n2 c2] 33)).heap.size = w.heap.size + 1 := by simp
      have hbw := (Below.refl w.heap.size w).alloc (Nat.le_refl _) (.cells #[.bool false, .slice A n c, .slice A2 n2 c2] 33)
      obtain ⟨wk, hwk⟩ : ∃ x, x = w.alloc (.cells #[.bool false, .slice A n c, .slice A2 n2 c2] 33) := ⟨_, rfl⟩
      rw [← hwk] at hx1 hbw hw1 ⊢
      have h1k := h1.below hbw
      clear hwk h1
      have hcall := HPT.out wk h1k
      obtain ⟨x0, x1, x2⟩ := Box.of hx1
      have HX1 := Lib.hid hx1
      have HBW := Lib.hid hbw
      have H1 := Lib.hid h1k
      clear hx1 hbw h1k hw1
      go_upto_region 2 with (go_at_call 67; refine hcall.mono ?_; clear hcall; rintro e w5 ⟨A5, n5, c5, A6, n6, c6, rfl, h5, h6, b5⟩)
      clear x0 x1 x2
      obtain ⟨x0, x1, x2⟩ := Box.of (box_keep HX1.out b5)
      have hcall := HWH.out w5 (H1.out.below b5)
      have HB5 := Lib.hid b5
      have H5 := Lib.hid h5
      have H6 := Lib.hid h6
      clear b5 h5 h6
      go_upto_region 7 with (go_at_call 68; refine hcall.mono ?_; clear hcall; rintro e w6 ⟨rfl, b6⟩)
      have ht5 := text_num (H5.out.below b6) HE1.out
      have ht6 := text_num (H6.out.below b6) HE2.out
      rw [lv_limbs, txt_dg] at ht5 ht6
      have HB6 := Lib.hid ((HBW.out.trans (HB5.out.mono HBW.out.size)).trans (b6.mono (Nat.le_trans HBW.out.size HB5.out.size)))
      have H5 := Lib.hid (H5.out.below b6)
      have HT5 := Lib.hid ht5
      have HT6 := Lib.hid ht6
      clear ht5 ht6 b6
      go_wp2_with (go_at_call 69; refine HT5.out.mono ?_; rintro e w7 ⟨rfl, b7⟩)
      go_ret3
      exact ⟨rfl, HB6.out.trans (b7.mono HB6.out.size)⟩
    · skip
      go_enter Tryz.func50, Tryz.ntmps50
      go_upto_region 1 with fail
      have hx1 := heap_alloc_new w (.cells #[.bool true, .slice A n c, .slice A2 n2 c2] 33)
      have hw1 : (w.alloc (.cells #[.bool true, .slice A n c, .slice A2 n2 c2] 33)).heap.size = w.heap.size + 1 := by simp
      have hbw := (Below.refl w.heap.size w).alloc (Nat.le_refl _) (.cells #[.bool true, .slice A n c, .slice A2 n2 c2] 33)
      obtain ⟨wk, hwk⟩ : ∃ x, x = w.alloc (.cells #[.bool true, .slice A n c, .slice A2 n2 c2] 33) := ⟨_, rfl⟩
      rw [← hwk] at hx1 hbw hw1 ⊢
      have h1k := h1.below hbw
      clear hwk h1
      have hcall := HPT.out wk h1k
      obtain ⟨x0, x1, x2⟩ := Box.of hx1
      have HX1 := Lib.hid hx1
      have HBW := Lib.hid hbw
      have H1 := Lib.hid h1k
      clear hx1 hbw h1k hw1
      go_upto_region 2 with (go_at_call 67; refine hcall.mono ?_; clear hcall; rintro e w5 ⟨A5, n5, c5, A6, n6, c6, rfl, h5, h6, b5⟩)
      clear x0 x1 x2
      obtain ⟨x0, x1, x2⟩ := Box.of (box_keep HX1.out b5)
      have hcall := HWH.out w5 (H1.out.below b5)
      have HB5 := Lib.hid b5
      have H5 := Lib.hid h5
      have H6 := Lib.hid h6
      clear b5 h5 h6
      go_upto_region 7 with (go_at_call 68; refine hcall.mono ?_; clear hcall; rintro e w6 ⟨rfl, b6⟩)
      have ht5 := text_num (H5.out.below b6) HE1.out
      have ht6 := text_num (H6.out.below b6) HE2.out
      rw [lv_limbs, txt_dg] at ht5 ht6
      have HB6 := Lib.hid ((HBW.out.trans (HB5.out.mono HBW.out.size)).trans (b6.mono (Nat.le_trans HBW.out.size HB5.out.size)))
      have H5 := Lib.hid (H5.out.below b6)
      have HT5 := Lib.hid ht5
      have HT6 := Lib.hid ht6
      clear ht5 ht6 b6
      go_wp2_with (go_at_call 69; refine HT5.out.mono ?_; rintro e w7 ⟨rfl, b7⟩)
      go_ret3
      exact ⟨rfl, HB6.out.trans (b7.mono HB6.out.size)⟩
  · rw [if_neg h0]
    rw [decide_eq_false h0] at hwh
    have HPT := Lib.hid hpt
    have HWH := Lib.hid hwh
    clear hpt hwh h0
    cases s1
    · skip
      go_enter Tryz.func50, Tryz.ntmps50
      go_upto_region 1 with fail
      have hx1 := heap_alloc_new w (.cells #[.bool false, .slice A n c, .slice A2 n2 c2] 33)
      have hw1 : (w.alloc (.cells #[.bool false, .slice A n c, .slice A2 n2 c2] 33)).heap.size = w.heap.size + 1 := by simp
      have hbw := (Below.refl w.heap.size w).alloc (Nat.le_refl _) (.cells #[.bool false, .slice A n c, .slice A2 n2 c2] 33)
      obtain ⟨wk, hwk⟩ : ∃ x, x = w.alloc (.cells #[.bool false, .slice A n c, .slice A2 n2 c2] 33) := ⟨_, rfl⟩
      rw [← hwk] at hx1 hbw hw1 ⊢
      have h1k := h1.below hbw
      clear hwk h1
      have hcall := HPT.out wk h1k
      obtain ⟨x0, x1, x2⟩ := Box.of hx1
      have HX1 := Lib.hid hx1
      have HBW := Lib.hid hbw
      have H1 := Lib.hid h1k
      clear hx1 hbw h1k hw1
      go_upto_region 2 with (go_at_call 67; refine hcall.mono ?_; clear hcall; rintro e w5 ⟨A5, n5, c5, A6, n6, c6, rfl, h5, h6, b5⟩)
      clear x0 x1 x2
      obtain ⟨x0, x1, x2⟩ := Box.of (box_keep HX1.out b5)
      have hcall := HWH.out w5 (H1.out.below b5)
      have HB5 := Lib.hid b5
      have H5 := Lib.hid h5
      have H6 := Lib.hid h6
      clear b5 h5 h6
      go_upto_region 6 with (go_at_call 68; refine hcall.mono ?_; clear hcall; rintro e w6 ⟨rfl, b6⟩)
      have ht5 := text_num (H5.out.below b6) HE1.out
      have ht6 := text_num (H6.out.below b6) HE2.out
      rw [lv_limbs, txt_dg] at ht5 ht6
      have HB6 := Lib.hid ((HBW.out.trans (HB5.out.mono HBW.out.size)).trans (b6.mono (Nat.le_trans HBW.out.size HB5.out.size)))
      have H5 := Lib.hid (H5.out.below b6)
      have HT5 := Lib.hid ht5
      have HT6 := Lib.hid ht6
      clear ht5 ht6 b6
      go_upto_region 7 with (go_at_call 69; refine HT6.out.mono ?_; rintro e w7 ⟨rfl, b7⟩)
      have ht5 := text_num (H5.out.below b7) HE1.out
      rw [lv_limbs, txt_dg] at ht5
      go_wp2_with (go_at_call 69; refine ht5.mono ?_; clear ht5; rintro e w8 ⟨rfl, b8⟩)
      go_ret3
      exact ⟨rfl, HB6.out.trans ((b7.trans (b8.mono b7.size)).mono HB6.out.size)⟩
    · skip
      go_enter Tryz.func50, Tryz.ntmps50
      go_upto_region 1 with fail
      have hx1 := heap_alloc_new w (.cells #[.bool true, .slice A n c, .slice A2 n2 c2] 33)
      have hw1 : (w.alloc (.cells #[.bool true, .slice A n c, .slice A2 n2 c2] 33)).heap.size = w.heap.size + 1 := by simp
      have hbw := (Below.refl w.heap.size w).alloc (Nat.le_refl _) (.cells #[.bool true, .slice A n c, .slice A2 n2 c2] 33)
      obtain ⟨wk, hwk⟩ : ∃ x, x = w.alloc (.cells #[.bool true, .slice A n c, .slice A2 n2 c2] 33) := ⟨_, rfl⟩
      rw [← hwk] at hx1 hbw hw1 ⊢
      have h1k := h1.below hbw
      clear hwk h1
      have hcall := HPT.out wk h1k
      obtain ⟨x0, x1, x2⟩ := Box.of hx1
      have HX1 := Lib.hid hx1
      have HBW := Lib.hid hbw
      have H1 := Lib.hid h1k
      clear hx1 hbw h1k hw1
      go_upto_region 2 with (go_at_call 67; refine hcall.mono ?_; clear hcall; rintro e w5 ⟨A5, n5, c5, A6, n6, c6, rfl, h5, h6, b5⟩)
      clear x0 x1 x2
      obtain ⟨x0, x1, x2⟩ := Box.of (box_keep HX1.out b5)
      have hcall := HWH.out w5 (H1.out.below b5)
      have HB5 := Lib.hid b5
      have H5 := Lib.hid h5
      have H6 := Lib.hid h6
      clear b5 h5 h6
      go_upto_region 6 with (go_at_call 68; refine hcall.mono ?_; clear hcall; rintro e w6 ⟨rfl, b6⟩)
      have ht5 := text_num (H5.out.below b6) HE1.out
      have ht6 := text_num (H6.out.below b6) HE2.out
      rw [lv_limbs, txt_dg] at ht5 ht6
      have HB6 := Lib.hid ((HBW.out.trans (HB5.out.mono HBW.out.size)).trans (b6.mono (Nat.le_trans HBW.out.size HB5.out.size)))
      have H5 := Lib.hid (H5.out.below b6)
      have HT5 := Lib.hid ht5
      have HT6 := Lib.hid ht6
      clear ht5 ht6 b6
      go_upto_region 7 with (go_at_call 69; refine HT6.out.mono ?_; rintro e w7 ⟨rfl, b7⟩)
      have ht5 := text_num (H5.out.below b7) HE1.out
      rw [lv_limbs, txt_dg] at ht5
      go_wp2_with (go_at_call 69; refine ht5.mono ?_; clear ht5; rintro e w8 ⟨rfl, b8⟩)
      go_ret3
      exact ⟨rfl, HB6.out.trans ((b7.trans (b8.mono b7.size)).mono HB6.out.size)⟩
set_option maxRecDepth 100000 in
set_option maxHeartbeats 4000000 in
theorem print_any (b1 : RB) (q : Rat) (w : World) (h1 : RatAt w b1 q) (z : Nat) (hz : z ≤ 1000000) (l1 : RatLe q z) :
    Calls Tryz.prog 32 #[b1.val (ratNeg q)] w fun e w' => e = .returned (.string (strB (printL q))) ∧ Below w.heap.size w w' := by
  have hpt := fun W h => rparts_any b1 q W h z hz l1
  obtain ⟨A, n, c, A2, n2, c2⟩ := b1
  unfold RB.val
  unfold RB.val at hpt
  simp only at hpt ⊢
  by_cases h0 : q.den = 1
  · have hlow : lowL q = [] := by unfold lowL; rw [if_pos h0]
    have hpr : strB (printL q) = strB (signL (ratNeg q)) ++ strB (dg q.num.natAbs) := by
      rw [strB_append]; unfold printL bodyL; rw [if_pos h0, List.append_nil]
    rw [hlow] at hpt
    have hem := strB_nil_empty
    have hz1 := sign_le (ratNeg q)
    have hz2 : (strB (dg q.num.natAbs)).size ≤ 100000000 := by rw [strB_size]; have := dg_le _ _ l1.num; omega
    have HPR := Lib.hid hpr
    have HPT := Lib.hid hpt
    clear hpt hlow hpr h0
    generalize strB (signL (ratNeg q)) = S1 at *
    generalize strB (dg q.num.natAbs) = S2 at *
    generalize strB ([] : List UInt8) = S3 at *
    generalize ratNeg q = s1 at *
    go_enter Tryz.func32, Tryz.ntmps32
    go_upto_region 1 with fail
    have hx1 := heap_alloc_new w (.cells #[.bool s1, .slice A n c, .slice A2 n2 c2] 33)
    have hw1 : (w.alloc (.cells #[.bool s1, .slice A n c, .slice A2 n2 c2] 33)).heap.size = w.heap.size + 1 := by simp
    have hbw := (Below.refl w.heap.size w).alloc (Nat.le_refl _) (.cells #[.bool s1, .slice A n c, .slice A2 n2 c2] 33)
    obtain ⟨wk, hwk⟩ : ∃ x, x = w.alloc (.cells #[.bool s1, .slice A n c, .slice A2 n2 c2] 33) := ⟨_, rfl⟩
    rw [← hwk] at hx1 hbw hw1 ⊢
    have h1k := h1.below hbw
    clear hwk h1
    have hcall := HPT.out wk h1k
    obtain ⟨x0, x1, x2⟩ := Box.of hx1
    have HBW := Lib.hid hbw
    clear hx1 hbw h1k hw1
    go_wp2_with (go_at_call 50; refine hcall.mono ?_; clear hcall; rintro e w5 ⟨rfl, b5⟩)
    go_ret
    exact ⟨by rw [HPR.out] <;> rfl, HBW.out.trans (b5.mono HBW.out.size)⟩
  · have hlow : lowL q = dg q.den := by unfold lowL; rw [if_neg h0]
    have hpr : strB (printL q) = strB (signL (ratNeg q)) ++ strB (dg q.num.natAbs) ++ ⟨#[47]⟩ ++ strB (dg q.den) := by
      rw [show (⟨#[47]⟩ : ByteArray) = strB [47] from rfl, strB_append, strB_append, strB_append]
      unfold printL bodyL
      rw [if_neg h0]
      simp
    rw [hlow] at hpt
    have hem := strB_ne _ (dg_ne q.den)
    have hz1 := sign_le (ratNeg q)
    have hz2 : (strB (dg q.num.natAbs)).size ≤ 100000000 := by rw [strB_size]; have := dg_le _ _ l1.num; omega
    have hz3 : (strB (dg q.den)).size ≤ 100000000 := by rw [strB_size]; have := dg_le _ _ l1.den; omega
    have HPR := Lib.hid hpr
    have HPT := Lib.hid hpt
    clear hpt hlow hpr h0
    generalize strB (signL (ratNeg q)) = S1 at *
    generalize strB (dg q.num.natAbs) = S2 at *
    generalize strB (dg q.den) = S3 at *
    generalize ratNeg q = s1 at *
    go_enter Tryz.func32, Tryz.ntmps32
    go_upto_region 1 with fail
    have hx1 := heap_alloc_new w (.cells #[.bool s1, .slice A n c, .slice A2 n2 c2] 33)
    have hw1 : (w.alloc (.cells #[.bool s1, .slice A n c, .slice A2 n2 c2] 33)).heap.size = w.heap.size + 1 := by simp
    have hbw := (Below.refl w.heap.size w).alloc (Nat.le_refl _) (.cells #[.bool s1, .slice A n c, .slice A2 n2 c2] 33)
    obtain ⟨wk, hwk⟩ : ∃ x, x = w.alloc (.cells #[.bool s1, .slice A n c, .slice A2 n2 c2] 33) := ⟨_, rfl⟩
    rw [← hwk] at hx1 hbw hw1 ⊢
    have h1k := h1.below hbw
    clear hwk h1
    have hcall := HPT.out wk h1k
    obtain ⟨x0, x1, x2⟩ := Box.of hx1
    have HBW := Lib.hid hbw
    clear hx1 hbw h1k hw1
    go_wp2_with (go_at_call 50; refine hcall.mono ?_; clear hcall; rintro e w5 ⟨rfl, b5⟩)
    go_ret
    exact ⟨by rw [HPR.out] <;> rfl, HBW.out.trans (b5.mono HBW.out.size)⟩
end Go.Proofs.YtlbbbafehhdpnaaGreatDoor
