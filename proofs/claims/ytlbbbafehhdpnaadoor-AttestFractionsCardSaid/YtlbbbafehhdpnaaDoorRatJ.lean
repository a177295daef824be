/- Contracts of package rat: Int (at 1), Floor. -/
import Derived.Test.YtlbbbafehhdpnaaDoorRatI
namespace Go.Proofs.YtlbbbafehhdpnaaDoor
open Go.RowKit
set_option linter.unusedVariables false
set_option linter.unusedSimpArgs false


set_option maxRecDepth 100000 in
theorem int_one (w : World) :
    Calls Tryd.prog 56 #[.int .i64 1] w fun e w' => ∃ b : RB, e = .returned (b.val (ratNeg 1)) ∧ RatAt w' b 1 ∧ Below w.heap.size w w' := by
  have hr3 := heap_alloc_new w (.cells #[.bool false, .slice none 0 0, .slice none 0 0] 50)
  have hbw := (Below.refl w.heap.size w).alloc (Nat.le_refl _) (.cells #[.bool false, .slice none 0 0, .slice none 0 0] 50)
  go_enter Tryd.func56, Tryd.ntmps56
  go_upto_region 1 with fail
  obtain ⟨wk, hwk⟩ : ∃ x, x = w.alloc (.cells #[.bool false, .slice none 0 0, .slice none 0 0] 50) := ⟨_, rfl⟩
  rw [← hwk] at hr3 hbw ⊢
  have hwd := word_any 1 wk (by decide)
  rw [show ((1 : Nat) : Int) = 1 from rfl] at hwd
  have HR3 := Lib.hid hr3
  have HBW := Lib.hid hbw
  clear hwk hr3 hbw
  go_wp2_with (go_at_call 37; refine hwd.mono ?_; clear hwd; rintro e w5 ⟨v5, rfl, ho5, b5⟩; obtain ⟨A5, c5, rfl, h5⟩ := Num.of (N := 0) ho5 (limbs_small _); obtain ⟨r0, r1, r2⟩ := Box.of (box_keep HR3.out b5); have s0 := frozen_of_blk (box_keep HR3.out b5) 0; have s1' := frozen_of_blk (box_keep HR3.out b5) 1; have s2' := frozen_of_blk (box_keep HR3.out b5) 2; have HB5 := Lib.hid (HBW.out.trans (b5.mono HBW.out.size)); have HK := Lib.hid (box_keep HR3.out b5))
  refine bodyPost_ret (v := .agg #[.bool false, .slice A5 (limbs 1).length c5, .slice none 0 0]) (by simp [results, Tryd.results56, go_sem, r0, r1, r2]) rfl ?_
  refine ⟨⟨A5, (limbs 1).length, c5, none, 0, 0⟩, rfl, ⟨?_, ?_⟩, bl_set (bl_set (bl_set HB5.out ?_) ?_) ?_⟩
  · refine h5.fr (S := fun b => b = w.heap.size) (fr_set (fr_set (fr_set (Fr.refl _ _) (.inl rfl)) (.inl rfl)) (.inl rfl)) ?_
    intro b i k hb e
    subst hb
    rw [cell_of_blk HK.out i] at e
    exact no_int3 _ _ _ (by simp) (by simp) (by simp) i k e
  · exact Num.nil_ _
  all_goals
    simp
def floorF (q : Rat) : Rat := mkRat (sgn (ratNeg q) (q.num.natAbs / q.den)) 1
def floorQ (q : Rat) : Rat := if ratNeg q = true ∧ 0 < q.num.natAbs % q.den then floorF q - 1 else floorF q
theorem floorF_at {w : World} {A : Option Addr} {n c : Nat} {q : Rat} (h : Num w A n c (limbs (q.num.natAbs / q.den))) : RatAt w ⟨A, n, c, none, 0, 0⟩ (floorF q) := by
  unfold floorF
  have h1 := mk_abs (ratNeg q) (q.num.natAbs / q.den) 1 (by decide)
  have h2 := mk_den (ratNeg q) (q.num.natAbs / q.den) 1 (by decide)
  rw [Nat.gcd_one_right, Nat.div_one] at h1
  rw [Nat.gcd_one_right] at h2
  refine ⟨by rw [h1]; exact h, ?_⟩
  unfold ratDen
  rw [if_pos (by rw [h2])]
  exact Num.nil_ _
theorem floorF_neg (q : Rat) : ratNeg (floorF q) = (ratNeg q && decide (0 < q.num.natAbs / q.den)) := by
  unfold floorF
  rw [mk_neg _ _ _ (by decide), Nat.gcd_one_right, Nat.div_one]
theorem one_le (k : Nat) (h : 1 ≤ k) : RatLe 1 k := by
  have e : (limbs 1).length = 1 := by rw [limbs_pos 1 (by decide), show 1 / 4294967296 = 0 by decide, limbs_zero]; rfl
  exact ⟨by rw [show (1 : Rat).num.natAbs = 1 by decide, e]; exact h, by rw [show (1 : Rat).den = 1 by decide, e]; exact h⟩
theorem floorF_le {q : Rat} {k : Nat} (h : RatLe q k) (h1 : 1 ≤ k) : RatLe (floorF q) k := by
  have hb := mk_bounds (ratNeg q) (q.num.natAbs / q.den) 1 (by decide) k (Nat.le_trans (limbs_len_mono _ _ (Nat.div_le_self _ _)) h.num) (one_le k h1).den
  exact ⟨hb.1, hb.2⟩
theorem floorQ_le {q : Rat} {k : Nat} (h : RatLe q k) (h1 : 1 ≤ k) : RatLe (floorQ q) (k + k + 1) := by
  unfold floorQ
  have hf := floorF_le h h1
  split
  · rw [Rat.sub_eq_add_neg]
    exact add_le hf (neg_le (one_le k h1))
  · exact ⟨by have := hf.num; omega, by have := hf.den; omega⟩
theorem dec_len0 {N n : Nat} (h : (limbs N).length = n) : decide (0 < N) = decide (0 < n) := by
  by_cases h0 : N = 0
  · subst h0
    rw [limbs_zero] at h
    simp at h
    subst h
    rfl
  · have := (limbs_top N h0).1
    rw [decide_eq_true (by omega), decide_eq_true (by omega)]
set_option maxRecDepth 100000 in
set_option maxHeartbeats 4000000 in
theorem floor_any (b1 : RB) (q : Rat) (w : World) (h1 : RatAt w b1 q) (z : Nat) (hz : z ≤ 400000) (l1 : RatLe q z) (hz1 : 1 ≤ z) :
    Calls Tryd.prog 30 #[b1.val (ratNeg q)] w fun e w' => ∃ b : RB, e = .returned (b.val (ratNeg (floorQ q))) ∧ RatAt w' b (floorQ q) ∧ Below w.heap.size w w' := by
  obtain ⟨A, n, c, A2, n2, c2⟩ := b1
  have hba := fun W h => below_any (ratNeg q) ⟨A, n, c, A2, n2, c2⟩ q W h
  have hpn := l1.num
  have hpd := l1.den
  have hn1 := h1.num
  simp only at hn1
  have hfa := fun W A n c h => @floorF_at W A n c q h
  have hfn := floorF_neg q
  have hsb := fun b1 b2 W h h2 => sub_any b1 b2 (floorF q) 1 W h h2 z (by omega) (floorF_le l1 hz1) (one_le z hz1)
  have hdp : 0 < lv (limbs q.den) := by rw [lv_limbs]; exact Nat.pos_of_ne_zero q.den_nz
  have hfq : floorQ q = if ratNeg q = true ∧ 0 < q.num.natAbs % q.den then floorF q - 1 else floorF q := rfl
  unfold RB.val
  unfold RB.val at hba hsb
  simp only at hba hsb ⊢
  generalize floorQ q = fq at *
  generalize hff : floorF q = ff at *
  clear hff
  generalize hs1 : ratNeg q = s1 at *
  clear hs1
  generalize q.num.natAbs = pa at *
  generalize q.den = pd at *
  have e1 : (limbs pa).length ≤ 100000000 := by omega
  have e3 : (limbs pd).length ≤ 100000000 := by omega
  have HN1 := Lib.hid hn1
  have HBA := Lib.hid hba
  have E1 := Lib.hid e1
  have E3 := Lib.hid e3
  have HFA := Lib.hid hfa
  have HFN := Lib.hid hfn
  have HSB := Lib.hid hsb
  have HDP := Lib.hid hdp
  have HFQ := Lib.hid hfq
  clear hn1 hba e1 e3 hpn hpd l1 hfa hfn hsb hdp hfq
  go_enter Tryd.func30, Tryd.ntmps30
  go_upto_region 1 with fail
  have hx1 := heap_alloc_new w (.cells #[.bool s1, .slice A n c, .slice A2 n2 c2] 50)
  have hw1 : (w.alloc (.cells #[.bool s1, .slice A n c, .slice A2 n2 c2] 50)).heap.size = w.heap.size + 1 := by simp
  have hbw := (Below.refl w.heap.size w).alloc (Nat.le_refl _) (.cells #[.bool s1, .slice A n c, .slice A2 n2 c2] 50)
  obtain ⟨wk, hwk⟩ : ∃ x, x = w.alloc (.cells #[.bool s1, .slice A n c, .slice A2 n2 c2] 50) := ⟨_, rfl⟩
  rw [← hwk] at hx1 hbw hw1 ⊢
  have h1k := h1.below hbw
  clear hwk h1
  have hr3 := heap_alloc_new wk (.cells #[.bool false, .slice none 0 0, .slice none 0 0] 50)
  have hx1' := box_keep hx1 ((Below.refl _ _).alloc (Nat.le_refl _) (.cells #[.bool false, .slice none 0 0, .slice none 0 0] 50))
  have hbk := hbw.alloc hbw.size (.cells #[.bool false, .slice none 0 0, .slice none 0 0] 50)
  have h1z := h1k.alloc (.cells #[.bool false, .slice none 0 0, .slice none 0 0] 50)
  obtain ⟨wz, hwz⟩ : ∃ x, x = wk.alloc (.cells #[.bool false, .slice none 0 0, .slice none 0 0] 50) := ⟨_, rfl⟩
  rw [hw1] at hr3
  rw [← hwz] at hr3 hx1' hbk h1z ⊢
  have HX1 := Lib.hid hx1'
  have HR3 := Lib.hid hr3
  have HBZ := Lib.hid hbk
  have H1 := Lib.hid h1z
  clear hwz hx1 hx1' hr3 hbk h1k h1z hbw hw1
  have hcs : ∀ W', Fr (fun b => b = w.heap.size + 1) wz W' → W'.cell? ⟨w.heap.size, 0, none⟩ = some (.bool s1) ∧ W'.cell? ⟨w.heap.size, 1, none⟩ = some (.slice A n c) ∧ W'.cell? ⟨w.heap.size, 2, none⟩ = some (.slice A2 n2 c2) := fun W' h => Box.of ((h.block _ (lt_of_blk HX1.out) (by omega)).trans HX1.out)
  have hnz : ∀ W', Below wz.heap.size wz W' → ∀ b i k, b = w.heap.size + 1 → W'.cell? ⟨b, i, none⟩ ≠ some (.int .u32 k) := fun W' h b i k hb e => by
    subst hb
    rw [cell_of_blk (box_keep HR3.out h) i] at e
    exact no_int3 _ _ _ (by simp) (by simp) (by simp) i k e
  have HCS := Lib.hid hcs
  have HNZ := Lib.hid hnz
  clear hcs hnz
  have tok : True := trivial
  go_cut [3, 4, 5] (fun x y z' wx => ∃ (A' : Option Addr) (n' c' : Nat) (A3 : Option Addr) (n3 c3 : Nat), x = .slice A' n' c' ∧ y = .slice A3 n3 c3 ∧ Num wx A' n' c' (limbs (pa / pd)) ∧ Num wx A3 n3 c3 (limbs (pa % pd)) ∧ Below wz.heap.size wz wx)
  case first =>
    go_region_held3 (fun W' => W'.cell? ⟨w.heap.size, 0, none⟩ = some (.bool s1) ∧ W'.cell? ⟨w.heap.size, 1, none⟩ = some (.slice A n c) ∧ W'.cell? ⟨w.heap.size, 2, none⟩ = some (.slice A2 n2 c2)) ((refine HCS.out _ ?_; first | with_reducible exact Fr.of_below b26 | with_reducible exact Fr.of_below b25 | with_reducible exact (Fr.refl _ _).drew | with_reducible exact Fr.refl _ _)) (first | (go_at_call 54; have _t := tok; refine (HBA.out _ (H1.out.below (below_drew2 (Below.refl _ _)))).mono ?_; rintro e w25 ⟨A25, n25, c25, rfl, h25, b25'⟩; have b25 := (below_drew2 (Below.refl wz.heap.size wz)).trans b25'; have H25 := Lib.hid h25; have tok1 : True := trivial; clear tok _t h25) | (go_at_call 11; have _t := tok1; refine (divmod_num (HN1.out.below (HBZ.out.trans (b25.mono HBZ.out.size))) H25.out E1.out E3.out HDP.out).mono ?_; rw [lv_limbs, lv_limbs]; rintro e w26 ⟨A26, n26, c26, A27, n27, c27, rfl, h26, h27, b26'⟩; have b26 := b25.trans (b26'.mono b25.size); clear tok1 _t))
    all_goals
      go_wp2_with fail
      go_meet
      exact ⟨_, _, _, _, _, _, rfl, rfl, h26, h27, b26⟩
  case rest =>
  obtain ⟨A6, n6, c6, A7, n7, c7, rfl, rfl, h6, h7, hb6⟩ := hcut
  obtain ⟨w6, rfl⟩ : ∃ x, x = wc := ⟨_, rfl⟩
  have hl6 := h6.len
  have hl7 := h7.len
  have hq6 : decide (0 < pa / pd) = decide (0 < n6) := dec_len0 hl6
  have hq7 : decide (0 < pa % pd) = decide (0 < n7) := dec_len0 hl7
  rw [hq6] at HFN
  have hcr : (s1 = true ∧ 0 < pa % pd) ↔ (s1 = true ∧ 0 < n7) := by
    have := decide_eq_decide.1 hq7
    constructor
    · rintro ⟨a, b⟩; exact ⟨a, this.1 b⟩
    · rintro ⟨a, b⟩; exact ⟨a, this.2 b⟩
  have hfq2 : fq = if s1 = true ∧ 0 < n7 then ff - 1 else ff := by
    rw [HFQ.out]
    by_cases h : s1 = true ∧ 0 < pa % pd
    · rw [if_pos h, if_pos (hcr.1 h)]
    · rw [if_neg h, if_neg (fun h' => h (hcr.2 h'))]
  have HFQ2 := Lib.hid hfq2
  have H6 := Lib.hid h6
  have HB6 := Lib.hid hb6
  obtain ⟨x0, x1, x2⟩ := HCS.out w6 (Fr.of_below hb6)
  clear h6 h7 hb6 hl6 hl7 hq6 hq7 hcr hfq2 HFQ tok
  go_upto_region 2 with fail
  go_cut [6] (fun x wx => x = .pointer (some ⟨w6.heap.size, 0, none⟩) ∧ wx = w6.alloc (.cells #[.bool (ratNeg ff), .slice A6 n6 c6, .slice none 0 0] 50))
  case first =>
    cases s1
    · go_wp2_with fail
      go_meet
      exact ⟨rfl, by rw [HFN.out]; rfl⟩
    · by_cases hn : n6 = 0
      · subst hn
        go_wp2_with fail
        go_meet
        exact ⟨rfl, by rw [HFN.out]; rfl⟩
      · have hn2 : ((n6 : Int) > 0) := by omega
        have hn3 : 0 < n6 := by omega
        go_wp2_with fail
        go_meet
        exact ⟨rfl, by rw [HFN.out, decide_eq_true hn3]; first | rfl | (simp; done)⟩
  case rest =>
  obtain ⟨rfl, hwc⟩ := hcut
  have hy := heap_alloc_new w6 (.cells #[.bool (ratNeg ff), .slice A6 n6 c6, .slice none 0 0] 50)
  have hb8 : Below wz.heap.size wz (w6.alloc (.cells #[.bool (ratNeg ff), .slice A6 n6 c6, .slice none 0 0] 50)) := HB6.out.alloc HB6.out.size _
  have hf8 := (HFA.out w6 A6 n6 c6 H6.out).alloc (.cells #[.bool (ratNeg ff), .slice A6 n6 c6, .slice none 0 0] 50)
  rw [← hwc] at hy hb8 hf8
  obtain ⟨w8, rfl⟩ : ∃ x, x = wc := ⟨_, rfl⟩
  have hrY : w.heap.size + 1 < w6.heap.size := Nat.lt_of_lt_of_le (lt_of_blk HR3.out) HB6.out.size
  obtain ⟨Y, hY⟩ : ∃ Y, w6.heap.size = Y := ⟨_, rfl⟩
  rw [hY] at hy hrY ⊢
  clear x0 x1 x2 hwc hY
  obtain ⟨x0, x1, x2⟩ := HCS.out w8 (Fr.of_below hb8)
  have HY := Lib.hid hy
  have HB8 := Lib.hid hb8
  have HF8 := Lib.hid hf8
  have hcy : ∀ W', Fr (fun b => b = w.heap.size + 1) w8 W' → W'.cell? ⟨Y, 0, none⟩ = some (.bool (ratNeg ff)) ∧ W'.cell? ⟨Y, 1, none⟩ = some (.slice A6 n6 c6) ∧ W'.cell? ⟨Y, 2, none⟩ = some (.slice none 0 0) := fun W' h => Box.of ((h.block _ (lt_of_blk HY.out) (by omega)).trans HY.out)
  have HCY := Lib.hid hcy
  clear hy hb8 hf8 hcy
  by_cases hc : s1 = true ∧ 0 < n7
  · obtain ⟨rfl, hn7⟩ := hc
    have hn72 : ((n7 : Int) > 0) := by omega
    have HE := Lib.hid (show fq = ff - 1 by rw [HFQ2.out, if_pos ⟨rfl, hn7⟩])
    go_upto_region 4 with fail
    have tok : True := trivial
    clear x0 x1 x2
    go_region_held3 (fun W' => W'.cell? ⟨Y, 0, none⟩ = some (.bool (ratNeg ff)) ∧ W'.cell? ⟨Y, 1, none⟩ = some (.slice A6 n6 c6) ∧ W'.cell? ⟨Y, 2, none⟩ = some (.slice none 0 0)) ((refine HCY.out _ ?_; first | with_reducible exact Fr.of_below b28 | with_reducible exact fr_set (fr_set (fr_set (Fr.of_below b28) (.inl rfl)) (.inl rfl)) (.inl rfl) | with_reducible exact Fr.of_below b25 | with_reducible exact (Fr.refl _ _).drew | with_reducible exact Fr.refl _ _)) (first | (go_at_call 56; have _t := tok; refine (int_one _).mono ?_; rintro e w25 ⟨ro, rfl, h25, b25'⟩; have b25 := (below_drew2 (Below.refl w8.heap.size w8)).trans b25'; have hcall := HSB.out ⟨A6, n6, c6, none, 0, 0⟩ ro w25 (HF8.out.below b25) h25; clear tok _t h25) | (go_at_call 26; refine hcall.mono ?_; clear hcall; rintro e w28 ⟨rb, rfl, hrat, b28'⟩; have b28 := b25.trans (b28'.mono b25.size); have b28z := HB8.out.trans (b28.mono HB8.out.size); obtain ⟨r0, r1, r2⟩ := Box.of (box_keep HR3.out b28z); have s0 := frozen_of_blk (box_keep HR3.out b28z) 0; have s1' := frozen_of_blk (box_keep HR3.out b28z) 1; have s2' := frozen_of_blk (box_keep HR3.out b28z) 2; have HRAT := Lib.hid hrat; have HB28 := Lib.hid (HBZ.out.trans (b28z.mono HBZ.out.size)); have HNI := Lib.hid (HNZ.out w28 b28z); clear hrat))
    all_goals
      go_wp2_with fail
      refine bodyPost_ret (v := .agg #[.bool (ratNeg (ff - 1)), .slice rb.A rb.n rb.c, .slice rb.A2 rb.n2 rb.c2]) (by simp [results, Tryd.results30, go_sem, r0, r1, r2]) rfl ?_
      rw [HE.out]
      refine ⟨rb, rfl, HRAT.out.fr (S := fun b => b = w.heap.size + 1) (fr_set (fr_set (fr_set (Fr.refl _ _) (.inl rfl)) (.inl rfl)) (.inl rfl)) HNI.out, bl_set (bl_set (bl_set HB28.out ?_) ?_) ?_⟩
      all_goals
        simp
  · have HE := Lib.hid (show fq = ff by rw [HFQ2.out, if_neg hc])
    obtain ⟨y0, y1, y2⟩ := HCY.out w8 (Fr.refl _ _)
    obtain ⟨r0, r1, r2⟩ := Box.of (box_keep HR3.out HB8.out)
    have s0 := frozen_of_blk (box_keep HR3.out HB8.out) 0
    have s1' := frozen_of_blk (box_keep HR3.out HB8.out) 1
    have s2' := frozen_of_blk (box_keep HR3.out HB8.out) 2
    have HB28 := Lib.hid (HBZ.out.trans (HB8.out.mono HBZ.out.size))
    have HNI := Lib.hid (HNZ.out w8 HB8.out)
    cases s1
    · skip
      go_wp2_with fail
      refine bodyPost_ret (v := .agg #[.bool (ratNeg ff), .slice A6 n6 c6, .slice none 0 0]) (by simp [results, Tryd.results30, go_sem, r0, r1, r2]) rfl ?_
      rw [HE.out]
      refine ⟨⟨A6, n6, c6, none, 0, 0⟩, rfl, HF8.out.fr (S := fun b => b = w.heap.size + 1) (fr_set (fr_set (fr_set (Fr.refl _ _) (.inl rfl)) (.inl rfl)) (.inl rfl)) HNI.out, bl_set (bl_set (bl_set HB28.out ?_) ?_) ?_⟩
      all_goals
        simp
    · have hn7 : n7 = 0 := by
        refine Classical.byContradiction fun h => hc ⟨rfl, by omega⟩
      subst hn7
      go_wp2_with fail
      refine bodyPost_ret (v := .agg #[.bool (ratNeg ff), .slice A6 n6 c6, .slice none 0 0]) (by simp [results, Tryd.results30, go_sem, r0, r1, r2]) rfl ?_
      rw [HE.out]
      refine ⟨⟨A6, n6, c6, none, 0, 0⟩, rfl, HF8.out.fr (S := fun b => b = w.heap.size + 1) (fr_set (fr_set (fr_set (Fr.refl _ _) (.inl rfl)) (.inl rfl)) (.inl rfl)) HNI.out, bl_set (bl_set (bl_set HB28.out ?_) ?_) ?_⟩
      all_goals
        simp
end Go.Proofs.YtlbbbafehhdpnaaDoor
