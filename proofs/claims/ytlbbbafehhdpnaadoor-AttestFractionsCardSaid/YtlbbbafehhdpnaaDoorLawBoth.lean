/- Contracts of attestlaw05.Both and attesttop.number. -/
import Derived.Test.YtlbbbafehhdpnaaDoorBtDiv
import Derived.Test.YtlbbbafehhdpnaaDoorRatE
namespace Go.Proofs.YtlbbbafehhdpnaaDoor
open Go.RowKit
set_option linter.unusedVariables false
set_option linter.unusedSimpArgs false

theorem put3 {w w9 : World} {g : Nat} {b : RB} {q : Rat} (hz : w.heap[g]? = some (.cells #[.bool false, .slice none 0 0, .slice none 0 0] 50 (0, 0))) (hr : RatAt w b q) (hb : Below w9.heap.size w9 w) (hg : w9.heap.size ≤ g) :
    RatAt (((w.setCell ⟨g, 0, none⟩ (.bool (ratNeg q))).setCell ⟨g, 1, none⟩ (.slice b.A b.n b.c)).setCell ⟨g, 2, none⟩ (.slice b.A2 b.n2 b.c2)) b q ∧ (((w.setCell ⟨g, 0, none⟩ (.bool (ratNeg q))).setCell ⟨g, 1, none⟩ (.slice b.A b.n b.c)).setCell ⟨g, 2, none⟩ (.slice b.A2 b.n2 b.c2)).heap[g]? = some (.cells #[.bool (ratNeg q), .slice b.A b.n b.c, .slice b.A2 b.n2 b.c2] 50 (0, 0)) ∧ Below w9.heap.size w9 (((w.setCell ⟨g, 0, none⟩ (.bool (ratNeg q))).setCell ⟨g, 1, none⟩ (.slice b.A b.n b.c)).setCell ⟨g, 2, none⟩ (.slice b.A2 b.n2 b.c2)) := by
  refine ⟨hr.fr (S := fun b => b = g) (fr_set (fr_set (fr_set (Fr.refl _ _) (.inl rfl)) (.inl rfl)) (.inl rfl)) ?_, ?_, bl_set (bl_set (bl_set hb hg) hg) hg⟩
  · intro b i k hb e
    subst hb
    rw [cell_of_blk hz i] at e
    exact no_int3 _ _ _ (by simp) (by simp) (by simp) i k e
  · exact set_blk (set_blk (set_blk hz 0 _) 1 _) 2 _
def BothP (e : Ending) (w w' : World) : Prop := ∃ (b : RB) (q : Rat) (z : Bool) (A1 : Option Addr) (n1 c1 : Nat) (A3 : Option Addr) (n3 c3 : Nat), e = .returned (.tuple #[b.val (ratNeg q), .agg #[.bool z, .slice A1 n1 c1, .slice A3 n3 c3]]) ∧ RatAt w' b q ∧ RatLe q 8 ∧ Below w.heap.size w w'
theorem fewLe (l : List Nat) : (l.take 8).length ≤ 8 := by rw [List.length_take]; omega
theorem one_len8 : (limbs 1).length ≤ 8 := by
  rw [limbs_pos 1 (by decide), show 1 / 4294967296 = 0 by decide, limbs_zero]
  decide
theorem one_pos8 : 0 < lv (limbs 1) := by rw [lv_limbs]; decide
theorem lv_lim {l : List Nat} {z : Nat} (hs : small l) (hl : l.length ≤ z) (N : Nat) (h : N ≤ lv l) : (limbs N).length ≤ z := by
  have h1 := limbs_length_le l hs
  have h2 := limbs_len_mono N (lv l) h
  omega
set_option maxRecDepth 100000 in
set_option maxHeartbeats 4000000 in
theorem both_any (s : Bool) {w : World} {A A2 : Option Addr} {n c n2 c2 : Nat} {l m : List Nat} (h : Num w A n c l) (h2 : Num w A2 n2 c2 m) :
    Calls Tryd.prog 52 #[.agg #[.bool s, .slice A n c, .slice A2 n2 c2]] w fun e w' => BothP e w w' := by
  go_enter Tryd.func52, Tryd.ntmps52
  go_upto_region 1 with fail
  have hx1 := heap_alloc_new w (.cells #[.bool s, .slice A n c, .slice A2 n2 c2] 48)
  have hw1 : (w.alloc (.cells #[.bool s, .slice A n c, .slice A2 n2 c2] 48)).heap.size = w.heap.size + 1 := by simp
  have hbw := (Below.refl w.heap.size w).alloc (Nat.le_refl _) (.cells #[.bool s, .slice A n c, .slice A2 n2 c2] 48)
  obtain ⟨wk, hwk⟩ : ∃ x, x = w.alloc (.cells #[.bool s, .slice A n c, .slice A2 n2 c2] 48) := ⟨_, rfl⟩
  rw [← hwk] at hx1 hbw hw1 ⊢
  have hx2 := heap_alloc_new wk (.cells #[.bool false, .slice none 0 0, .slice none 0 0] 50)
  have hw2 : (wk.alloc (.cells #[.bool false, .slice none 0 0, .slice none 0 0] 50)).heap.size = w.heap.size + 1 + 1 := by simp [hw1]
  have hx1' := box_keep hx1 ((Below.refl _ _).alloc (Nat.le_refl _) (.cells #[.bool false, .slice none 0 0, .slice none 0 0] 50))
  have hbk := hbw.alloc hbw.size (.cells #[.bool false, .slice none 0 0, .slice none 0 0] 50)
  obtain ⟨wj, hwj⟩ : ∃ x, x = wk.alloc (.cells #[.bool false, .slice none 0 0, .slice none 0 0] 50) := ⟨_, rfl⟩
  rw [hw1] at hx2
  rw [← hwj] at hx2 hx1' hbk hw2 ⊢
  have hx3 := heap_alloc_new wj (.cells #[.bool false, .slice none 0 0, .slice none 0 0] 87)
  have hx1'' := box_keep hx1' ((Below.refl _ _).alloc (Nat.le_refl _) (.cells #[.bool false, .slice none 0 0, .slice none 0 0] 87))
  have hx2' := box_keep hx2 ((Below.refl _ _).alloc (Nat.le_refl _) (.cells #[.bool false, .slice none 0 0, .slice none 0 0] 87))
  have hbz := hbk.alloc hbk.size (.cells #[.bool false, .slice none 0 0, .slice none 0 0] 87)
  obtain ⟨wz, hwz⟩ : ∃ x, x = wj.alloc (.cells #[.bool false, .slice none 0 0, .slice none 0 0] 87) := ⟨_, rfl⟩
  rw [hw2] at hx3
  rw [← hwz] at hx3 hx1'' hx2' hbz ⊢
  have HX1 := Lib.hid hx1''
  have HX2 := Lib.hid hx2'
  have HX3 := Lib.hid hx3
  have HBZ := Lib.hid hbz
  have HF1 := Lib.hid (h.below hbz)
  have HF2 := Lib.hid (h2.below hbz)
  clear hwz hwj hwk hx1 hx1' hx1'' hx2 hx2' hx3 hbw hbk hbz hw1 hw2 h h2
  have hcs : ∀ W', Fr (fun b => b = w.heap.size + 1 ∨ b = w.heap.size + 1 + 1) wz W' → W'.cell? ⟨w.heap.size, 0, none⟩ = some (.bool s) ∧ W'.cell? ⟨w.heap.size, 1, none⟩ = some (.slice A n c) ∧ W'.cell? ⟨w.heap.size, 2, none⟩ = some (.slice A2 n2 c2) := fun W' h => Box.of ((h.block _ (lt_of_blk HX1.out) (by omega)).trans HX1.out)
  have HCS := Lib.hid hcs
  clear hcs
  have tok : True := trivial
  go_cut [4, 5] (fun x y wx => ∃ (A' : Option Addr) (n' c' : Nat) (A3 : Option Addr) (n3 c3 : Nat), x = .slice A' n' c' ∧ y = .slice A3 n3 c3 ∧ Num wx A' n' c' (l.take 8) ∧ Num wx A3 n3 c3 (m.take 8) ∧ Below wz.heap.size wz wx)
  case first =>
    go_region_held3 (fun W' => W'.cell? ⟨w.heap.size, 0, none⟩ = some (.bool s) ∧ W'.cell? ⟨w.heap.size, 1, none⟩ = some (.slice A n c) ∧ W'.cell? ⟨w.heap.size, 2, none⟩ = some (.slice A2 n2 c2)) ((refine HCS.out _ ?_; first | with_reducible exact Fr.of_below b26 | with_reducible exact Fr.of_below b25 | with_reducible exact (Fr.refl _ _).drew | with_reducible exact Fr.refl _ _)) (first | (go_at_call 69; have _t := tok; refine (few5_num (HF1.out.below (below_drew2 (Below.refl _ _)))).mono ?_; rintro e w25 ⟨A25, n25, c25, rfl, h25, b25'⟩; have b25 := (below_drew2 (Below.refl wz.heap.size wz)).trans b25'; have H25 := Lib.hid h25; have tok1 : True := trivial; clear tok _t h25) | (go_at_call 69; have _t := tok1; refine (few5_num (HF2.out.below b25)).mono ?_; rintro e w26 ⟨A26, n26, c26, rfl, h26, b26'⟩; have b26 := b25.trans (b26'.mono b25.size); have H25' := Lib.hid (H25.out.below b26'); clear tok1 _t))
    all_goals
      go_wp2_with fail
      go_meet
      exact ⟨_, _, _, _, _, _, rfl, rfl, H25'.out, h26, b26⟩
  case rest =>
  obtain ⟨A6, n6, c6, A7, n7, c7, rfl, rfl, h6, h7, hb6⟩ := hcut
  obtain ⟨w6, rfl⟩ : ∃ x, x = wc := ⟨_, rfl⟩
  have hl7 := fewLe m
  have hof := rof2_any h7 (by have := h7.len; omega)
  have H6 := Lib.hid h6
  have H7 := Lib.hid h7
  have HB6 := Lib.hid hb6
  have HOF := Lib.hid hof
  have HL6 := Lib.hid (fewLe l)
  clear h6 h7 hb6 hof tok
  generalize l.take 8 = l8 at *
  generalize m.take 8 = m8 at *
  go_upto_if 17 with (go_at_call 70; refine HOF.out.mono ?_; clear HOF; rintro e w7 ⟨A8, n8, c8, rfl, bb, hbb, tb, vb, hn8, b7⟩)
  have hz8 : n8 = 0 ↔ lv m8 = 0 := by rw [← vb, ← tight_zero bb tb, hbb.len]
  have H7' := Lib.hid (H7.out.below b7)
  have HB7 := Lib.hid (HB6.out.trans (b7.mono HB6.out.size))
  have H6' := Lib.hid (H6.out.below b7)
  clear hbb tb vb b7 H6 H7
  go_cut [5] (fun y wx => ∃ (A3 : Option Addr) (n3 c3 : Nat) (m' : List Nat), y = .slice A3 n3 c3 ∧ Num wx A3 n3 c3 m' ∧ 0 < lv m' ∧ m'.length ≤ 8 ∧ Below w7.heap.size w7 wx)
  case first =>
    by_cases h0 : n8 = 0
    · subst h0
      clear hz8
      go_wp2_with fail
      go_meet
      exact ⟨_, _, _, limbs 1, rfl, num_lit1 w7, one_pos8, one_len8, (Below.refl _ _).alloc (Nat.le_refl _) _⟩
    · have h0' : ((n8 : Int) == 0) = false := by rw [beq_eq_false_iff_ne]; omega
      have hpos : 0 < lv m8 := by
        rcases Nat.eq_zero_or_pos (lv m8) with e | e
        · exact absurd (hz8.2 e) h0
        · exact e
      have HPOS := Lib.hid hpos
      clear h0 hz8 hpos
      go_wp2_with fail
      go_meet
      exact ⟨_, _, _, m8, rfl, H7'.out, HPOS.out, hl7, Below.refl _ _⟩
  case rest =>
  obtain ⟨A9, n9, c9, m', rfl, h9, hpm, hlm, hb9⟩ := hcut
  obtain ⟨w9, rfl⟩ : ∃ x, x = wc := ⟨_, rfl⟩
  have H6 := Lib.hid (H6'.out.below hb9)
  have H9 := Lib.hid h9
  have HPM := Lib.hid hpm
  have HLM := Lib.hid hlm
  have HB9 := Lib.hid (HB7.out.trans (hb9.mono HB7.out.size))
  clear h9 hpm hlm hb9 hz8 H7' H6' HB7 HB6 hl7
  obtain ⟨q, hq⟩ : ∃ q, mkRat (sgn s (lv l8)) (lv m') = q := ⟨_, rfl⟩
  have HQ := Lib.hid hq
  clear hq
  have tok : True := trivial
  go_upto_region 4 with fail
  go_cut [6, 7] (fun p y wx => ∃ (rb : RB) (g : Nat), p = .pointer (some ⟨g, 0, none⟩) ∧ y = .bool true ∧ RatAt wx rb q ∧ wx.heap[g]? = some (.cells #[.bool (ratNeg q), .slice rb.A rb.n rb.c, .slice rb.A2 rb.n2 rb.c2] 50 (0, 0)) ∧ w9.heap.size ≤ g ∧ Below w9.heap.size w9 wx)
  case first =>
    have hmake := fun W A3 n3 c3 A4 n4 c4 (ha : Num W A3 n3 c3 l8) (hb : Num W A4 n4 c4 m') => make_any (w := W) s ha hb (by have := HL6.out; omega) (by have := HLM.out; omega) HPM.out
    rw [HQ.out] at hmake
    unfold RB.val at hmake
    have hc6 := fun W (h : Below w9.heap.size w9 W) => copy_num (H6.out.below h) (by have := H6.out.len; have := HL6.out; omega)
    have hc9 := fun W (h : Below w9.heap.size w9 W) => copy_num (H9.out.below h) (by have := H9.out.len; have := HLM.out; omega)
    have hkf : ∀ W', Below w9.heap.size w9 W' → W'.cell? ⟨w.heap.size, 0, none⟩ = some (.bool s) := fun W' h => (HCS.out _ (Fr.of_below (HB9.out.trans (h.mono HB9.out.size)))).1
    have HMK := Lib.hid hmake
    have HC6 := Lib.hid hc6
    have HC9 := Lib.hid hc9
    have KF := Lib.hid hkf
    clear hmake hc6 hc9 hkf
    go_region_held3 (fun W' => W'.cell? ⟨w.heap.size, 0, none⟩ = some (.bool s)) ((refine KF.out _ ?_; repeat' (first | with_reducible exact c27 | with_reducible exact c26 | with_reducible exact c25 | with_reducible exact Below.refl _ _ | with_reducible refine below_drew2 ?_ | with_reducible refine bl_set ?_ ?_ | with_reducible refine bl_alloc ?_ ?_ | exact c27.size | exact c26.size | exact c25.size | exact Nat.le_refl _))) (first | (go_at_call 71; have _t := tok; refine (HC6.out _ (by first | exact below_drew2 (Below.refl _ _) | exact (below_drew2 (Below.refl _ _)).alloc (Nat.le_refl _) _)).mono ?_; rintro e w25 ⟨A25, n25, c25x, rfl, h25, b25'⟩; have c25 : Below w9.heap.size w9 w25 := (by first | exact (below_drew2 (Below.refl _ _)).trans (b25'.mono (Nat.le_refl _)) | exact ((below_drew2 (Below.refl _ _)).alloc (Nat.le_refl _) _).trans (b25'.mono (by simp))); (first | (have hz := box_keep hz b25') | (have hz := box_keep (show (World.drew (World.alloc w9 (.cells #[.bool false, .slice none 0 0, .slice none 0 0] 50))).heap[w9.heap.size]? = _ from heap_alloc_new w9 (.cells #[.bool false, .slice none 0 0, .slice none 0 0] 50)) b25') | (have hz := box_keep (heap_alloc_new _ (.cells #[.bool false, .slice none 0 0, .slice none 0 0] 50)) b25') | skip); have H25 := Lib.hid h25; have tok1 : True := trivial; clear tok _t h25) | (go_at_call 71; have _t := tok1; refine (HC9.out _ (by first | exact c25 | exact c25.alloc c25.size _)).mono ?_; rintro e w26 ⟨A26, n26, c26x, rfl, h26, b26'⟩; have c26 : Below w9.heap.size w9 w26 := (by first | exact c25.trans (b26'.mono c25.size) | exact (c25.alloc c25.size _).trans (b26'.mono (Nat.le_trans c25.size (by simp)))); (first | (have hz := box_keep hz b26') | (have hz := box_keep (heap_alloc_new _ (.cells #[.bool false, .slice none 0 0, .slice none 0 0] 50)) b26') | skip); have H25' := Lib.hid (show Num w26 A25 n25 c25x l8 from by first | exact H25.out.below b26' | exact (H25.out.alloc _).below b26'); have H26 := Lib.hid h26; clear tok1 _t h26) | (go_at_call 33; refine (HMK.out _ _ _ _ _ _ _ (by first | exact H25'.out | exact H25'.out.alloc _) (by first | exact H26.out | exact H26.out.alloc _)).mono ?_; rintro e w27 ⟨rb, rfl, hrat, b27'⟩; have c27 : Below w9.heap.size w9 w27 := (by first | exact c26.trans (b27'.mono c26.size) | exact (c26.alloc c26.size _).trans (b27'.mono (Nat.le_trans c26.size (by simp)))); (first | (have hz := box_keep hz b27') | (have hz := box_keep (heap_alloc_new _ (.cells #[.bool false, .slice none 0 0, .slice none 0 0] 50)) b27') | skip); have HRAT := Lib.hid hrat; clear hrat; (first | (obtain ⟨r0, r1, r2⟩ := Box.of hz; have s0 := frozen_of_blk hz 0; have s1' := frozen_of_blk hz 1; have s2' := frozen_of_blk hz 2; have HZ := Lib.hid hz; clear hz) | skip)))
    all_goals
      go_wp2_with fail
      go_meet
      first | exact ⟨rb, _, rfl, rfl, HRAT.out.alloc _, heap_alloc_new _ _, c27.size, c27.alloc c27.size _⟩ | (obtain ⟨a1, a2, a3⟩ := put3 HZ.out HRAT.out c27 (by first | exact Nat.le_refl _ | exact c25.size | exact c26.size); exact ⟨rb, _, rfl, rfl, a1, a2, (by first | exact Nat.le_refl _ | exact c25.size | exact c26.size), a3⟩)
  case rest =>
  obtain ⟨rb, g, rfl, rfl, hrat, hg, hgl, hb10⟩ := hcut
  obtain ⟨w10, rfl⟩ : ∃ x, x = wc := ⟨_, rfl⟩
  have H6' := Lib.hid (H6.out.below hb10)
  have H9' := Lib.hid (H9.out.below hb10)
  have hqle : RatLe q 8 := by
    have h1 := mk_le s (lv l8) (lv m') HPM.out
    rw [HQ.out] at h1
    exact ⟨lv_lim H6.out.sm HL6.out _ h1.1, lv_lim H9.out.sm HLM.out _ h1.2⟩
  have HQLE := Lib.hid hqle
  have HG := Lib.hid hg
  have HRAT := Lib.hid hrat
  have HBW10 := Lib.hid (HB9.out.trans (hb10.mono HB9.out.size))
  have hne1 : g ≠ w.heap.size + 1 ∧ g ≠ w.heap.size + 1 + 1 := by
    have := lt_of_blk HX3.out
    have := HB9.out.size
    omega
  have hkf : ∀ W', Fr (fun b => b = w.heap.size + 1 ∨ b = w.heap.size + 1 + 1) w10 W' → W'.cell? ⟨w.heap.size, 0, none⟩ = some (.bool s) ∧ W'.cell? ⟨g, 0, none⟩ = some (.bool (ratNeg q)) ∧ W'.cell? ⟨g, 1, none⟩ = some (.slice rb.A rb.n rb.c) ∧ W'.cell? ⟨g, 2, none⟩ = some (.slice rb.A2 rb.n2 rb.c2) := fun W' h => by
    obtain ⟨a0, a1, a2⟩ := Box.of ((h.block g (lt_of_blk HG.out) (by omega)).trans HG.out)
    have hx := box_keep HX1.out HBW10.out
    obtain ⟨b0, _⟩ := Box.of ((h.block _ (lt_of_blk hx) (by omega)).trans hx)
    exact ⟨b0, a0, a1, a2⟩
  have hof6 := fun W (h : Below w10.heap.size w10 W) => rof2_any (H6'.out.below h) (by have := H6.out.len; have := HL6.out; omega)
  have hof9 := fun W (h : Below w10.heap.size w10 W) => rof2_any (H9'.out.below h) (by have := H9.out.len; have := HLM.out; omega)
  have KF2 := Lib.hid hkf
  have HO6 := Lib.hid hof6
  have HO9 := Lib.hid hof9
  clear hqle hg hrat hb10 hkf hof6 hof9 tok
  go_upto_region 7 with fail
  have tok : True := trivial
  go_region_held3 (fun W' => W'.cell? ⟨w.heap.size, 0, none⟩ = some (.bool s) ∧ W'.cell? ⟨g, 0, none⟩ = some (.bool (ratNeg q)) ∧ W'.cell? ⟨g, 1, none⟩ = some (.slice rb.A rb.n rb.c) ∧ W'.cell? ⟨g, 2, none⟩ = some (.slice rb.A2 rb.n2 rb.c2)) ((refine KF2.out _ ?_; repeat' (first | with_reducible exact Fr.of_below c32 | with_reducible exact Fr.of_below c31 | with_reducible exact Fr.of_below c30 | with_reducible exact Fr.refl _ _ | with_reducible exact (Fr.refl _ _).drew | with_reducible refine fr_set ?_ ?_ | exact .inl (.inl rfl) | exact .inl (.inr rfl)))) (first | (go_at_call 70; have _t := tok; refine (HO6.out _ (below_drew2 (Below.refl _ _))).mono ?_; rintro e w30 ⟨A30, n30, c30x, rfl, l30, h30, t30, v30, m30, b30'⟩; have c30 : Below w10.heap.size w10 w30 := (below_drew2 (Below.refl _ _)).trans (b30'.mono (Nat.le_refl _)); have H30 := Lib.hid h30; have T30 := Lib.hid t30; have tok1 : True := trivial; clear tok _t h30 t30) | (go_at_call 70; have _t := tok1; refine (HO9.out _ c30).mono ?_; rintro e w31 ⟨A31, n31, c31x, rfl, l31, h31, t31, v31, m31, b31'⟩; have c31 : Below w10.heap.size w10 w31 := c30.trans (b31'.mono c30.size); have H30' := Lib.hid (H30.out.below b31'); have H31 := Lib.hid h31; have T31 := Lib.hid t31; have V31 := Lib.hid v31; clear tok1 _t h31 t31 v31) | (go_at_call 73; refine (rof5_any s H30'.out H31.out m30 m31 T30.out T31.out (by rw [V31.out]; exact HPM.out)).mono ?_; rintro e w32 ⟨⟨z, A33, n33, c33x, A34, n34, c34x, rfl⟩, b32'⟩; have c32 : Below w10.heap.size w10 w32 := c31.trans (b32'.mono c31.size); have b32 := HBW10.out.trans (c32.mono HBW10.out.size); have HB32 := Lib.hid b32; have y2 := box_keep HX2.out b32; have y3 := box_keep HX3.out b32; obtain ⟨r0, r1, r2⟩ := Box.of y2; obtain ⟨r3, r4, r5⟩ := Box.of y3; have s0 := frozen_of_blk y2 0; have s1' := frozen_of_blk y2 1; have s2' := frozen_of_blk y2 2; have s3' := frozen_of_blk y3 0; have s4' := frozen_of_blk y3 1; have s5' := frozen_of_blk y3 2; have Y2 := Lib.hid y2; have Y3 := Lib.hid y3; clear b32 y2 y3))
  all_goals
    go_wp2_with fail
    refine bodyPost_ret (v := .tuple #[.agg #[.bool (ratNeg q), .slice rb.A rb.n rb.c, .slice rb.A2 rb.n2 rb.c2], .agg #[.bool z, .slice A33 n33 c33x, .slice A34 n34 c34x]]) (by simp [results, Tryd.results52, go_sem, r0, r1, r2, r3, r4, r5]) rfl ?_
    refine ⟨rb, q, z, _, _, _, _, _, _, rfl, ?_, HQLE.out, ?_⟩
    · refine (HRAT.out.below c32).fr (S := fun b => b = w.heap.size + 1 ∨ b = w.heap.size + 1 + 1) (w := w32) ?_ ?_
      · repeat' (first | with_reducible exact Fr.refl _ _ | with_reducible refine fr_set ?_ ?_ | exact .inl (.inl rfl) | exact .inl (.inr rfl))
      · rintro b i k (hb | hb) e
        · subst hb
          rw [cell_of_blk Y2.out i] at e
          exact no_int3 _ _ _ (by simp) (by simp) (by simp) i k e
        · subst hb
          rw [cell_of_blk Y3.out i] at e
          exact no_int3 _ _ _ (by simp) (by simp) (by simp) i k e
    · have hbe := HBZ.out.trans (HB32.out.mono HBZ.out.size)
      repeat' (first | with_reducible exact hbe | with_reducible refine bl_set ?_ ?_ | (show w.heap.size ≤ w.heap.size + 1; omega) | (show w.heap.size ≤ w.heap.size + 1 + 1; omega))

set_option maxRecDepth 100000 in
set_option maxHeartbeats 4000000 in
theorem number_any (s : Bool) {w : World} {A A2 : Option Addr} {n c n2 c2 : Nat} {l m : List Nat} (h : Num w A n c l) (h2 : Num w A2 n2 c2 m) :
    Calls Tryd.prog 24 #[.agg #[.bool s, .slice A n c, .slice A2 n2 c2]] w fun e w' => ∃ (b : RB) (q : Rat), e = .returned (b.val (ratNeg q)) ∧ RatAt w' b q ∧ RatLe q 8 ∧ Below w.heap.size w w' := by
  unfold RB.val
  go_enter Tryd.func24, Tryd.ntmps24
  go_upto_region 1 with fail
  have hx1 := heap_alloc_new w (.cells #[.bool s, .slice A n c, .slice A2 n2 c2] 48)
  have hw1 : (w.alloc (.cells #[.bool s, .slice A n c, .slice A2 n2 c2] 48)).heap.size = w.heap.size + 1 := by simp
  have hbw := (Below.refl w.heap.size w).alloc (Nat.le_refl _) (.cells #[.bool s, .slice A n c, .slice A2 n2 c2] 48)
  obtain ⟨wk, hwk⟩ : ∃ x, x = w.alloc (.cells #[.bool s, .slice A n c, .slice A2 n2 c2] 48) := ⟨_, rfl⟩
  rw [← hwk] at hx1 hbw hw1 ⊢
  have hx2 := heap_alloc_new wk (.cells #[.bool false, .slice none 0 0, .slice none 0 0] 50)
  have hx1' := box_keep hx1 ((Below.refl _ _).alloc (Nat.le_refl _) (.cells #[.bool false, .slice none 0 0, .slice none 0 0] 50))
  have hbk := hbw.alloc hbw.size (.cells #[.bool false, .slice none 0 0, .slice none 0 0] 50)
  obtain ⟨wz, hwz⟩ : ∃ x, x = wk.alloc (.cells #[.bool false, .slice none 0 0, .slice none 0 0] 50) := ⟨_, rfl⟩
  rw [hw1] at hx2
  rw [← hwz] at hx2 hx1' hbk ⊢
  have hbo := both_any s (h.below hbk) (h2.below hbk)
  have HX2 := Lib.hid hx2
  have HBZ := Lib.hid hbk
  have HBO := Lib.hid hbo
  obtain ⟨r0, r1, r2⟩ := Box.of hx1'
  clear hwz hwk hx1 hx1' hx2 hbw hbk hbo hw1 h h2
  go_upto_region 2 with (go_at_call 52; refine HBO.out.mono ?_; rintro e w5 ⟨rb, q, z, A3, n3, c3, A4, n4, c4, rfl, hrat, hle, hb5⟩; unfold RB.val)
  have y5 := box_keep (heap_alloc_new w5 (.cells #[.bool (ratNeg q), .slice rb.A rb.n rb.c, .slice rb.A2 rb.n2 rb.c2] 50)) ((Below.refl _ _).alloc (Nat.le_refl _) (.cells #[.bool z, .slice A3 n3 c3, .slice A4 n4 c4] 87))
  have be := (hb5.alloc hb5.size (.cells #[.bool (ratNeg q), .slice rb.A rb.n rb.c, .slice rb.A2 rb.n2 rb.c2] 50)).alloc (Nat.le_trans hb5.size (by simp)) (.cells #[.bool z, .slice A3 n3 c3, .slice A4 n4 c4] 87)
  have hr5 := (hrat.alloc (.cells #[.bool (ratNeg q), .slice rb.A rb.n rb.c, .slice rb.A2 rb.n2 rb.c2] 50)).alloc (.cells #[.bool z, .slice A3 n3 c3, .slice A4 n4 c4] 87)
  obtain ⟨we, hwe⟩ : ∃ x, x = (w5.alloc (.cells #[.bool (ratNeg q), .slice rb.A rb.n rb.c, .slice rb.A2 rb.n2 rb.c2] 50)).alloc (.cells #[.bool z, .slice A3 n3 c3, .slice A4 n4 c4] 87) := ⟨_, rfl⟩
  rw [← hwe] at y5 be hr5 ⊢
  have hlt5 := Nat.lt_of_lt_of_le (lt_of_blk HX2.out) hb5.size
  have y2 := box_keep HX2.out be
  obtain ⟨x0, x1, x2⟩ := Box.of y5
  obtain ⟨r3, r4, r5⟩ := Box.of y2
  have s3' := frozen_of_blk y2 0
  have s4' := frozen_of_blk y2 1
  have s5' := frozen_of_blk y2 2
  have Y2 := Lib.hid y2
  have BE := Lib.hid be
  have HR5 := Lib.hid hr5
  clear hwe y5 be hr5 y2 hrat hb5 r0 r1 r2
  generalize w5.heap.size = g at *
  go_wp2_with fail
  refine bodyPost_ret (v := .agg #[.bool (ratNeg q), .slice rb.A rb.n rb.c, .slice rb.A2 rb.n2 rb.c2]) (by simp [results, Tryd.results24, go_sem, r3, r4, r5]) rfl ?_
  refine ⟨rb, q, rfl, HR5.out.fr (S := fun b => b = w.heap.size + 1) (w := we) ?_ ?_, hle, ?_⟩
  · repeat' (first | with_reducible exact Fr.refl _ _ | with_reducible refine fr_set ?_ ?_ | exact .inl rfl)
  · intro b i k hb e
    subst hb
    rw [cell_of_blk Y2.out i] at e
    exact no_int3 _ _ _ (by simp) (by simp) (by simp) i k e
  · have hbe := HBZ.out.trans (BE.out.mono HBZ.out.size)
    repeat' (first | with_reducible exact hbe | with_reducible refine bl_set ?_ ?_ | (show w.heap.size ≤ w.heap.size + 1; omega))
end Go.Proofs.YtlbbbafehhdpnaaDoor

namespace Go.Proofs.YtlbbbafehhdpnaaDoor
open Go.RowKit
set_option linter.unusedVariables false
set_option linter.unusedSimpArgs false

def Box3 (w : World) (g : Nat) (b : RB) (q : Rat) : Prop := w.heap[g]? = some (.cells #[.bool (ratNeg q), .slice b.A b.n b.c, .slice b.A2 b.n2 b.c2] 50 (0, 0))
/-- a box of a rational number, whatever it holds. -/
def Blk3 (w : World) (g : Nat) : Prop := ∃ (s : Bool) (A : Option Addr) (n c : Nat) (A2 : Option Addr) (n2 c2 : Nat), w.heap[g]? = some (.cells #[.bool s, .slice A n c, .slice A2 n2 c2] 50 (0, 0))
theorem Box3.blk {w : World} {g : Nat} {b : RB} {q : Rat} (h : Box3 w g b q) : Blk3 w g := ⟨_, _, _, _, _, _, _, h⟩
theorem Box3.below {w w' : World} {g : Nat} {b : RB} {q : Rat} (h : Box3 w g b q) (hb : Below w.heap.size w w') : Box3 w' g b q := box_keep h hb
theorem Blk3.below {w w' : World} {g : Nat} (h : Blk3 w g) (hb : Below w.heap.size w w') : Blk3 w' g := by
  obtain ⟨s, A, n, c, A2, n2, c2, h⟩ := h
  exact ⟨s, A, n, c, A2, n2, c2, box_keep h hb⟩
theorem Blk3.lt {w : World} {g : Nat} (h : Blk3 w g) : g < w.heap.size := by
  obtain ⟨s, A, n, c, A2, n2, c2, h⟩ := h
  exact lt_of_blk h
/-- a store of a whole rational number into a box. -/
def store3 (w : World) (g : Nat) (s : Bool) (b : RB) : World := ((w.setCell ⟨g, 0, none⟩ (.bool s)).setCell ⟨g, 1, none⟩ (.slice b.A b.n b.c)).setCell ⟨g, 2, none⟩ (.slice b.A2 b.n2 b.c2)
theorem store3_fr (w : World) (g : Nat) (s : Bool) (b : RB) : Fr (fun k => k = g) w (store3 w g s b) := fr_set (fr_set (fr_set (Fr.refl _ _) (.inl rfl)) (.inl rfl)) (.inl rfl)
theorem store3_size (w : World) (g : Nat) (s : Bool) (b : RB) : (store3 w g s b).heap.size = w.heap.size := by simp [store3, World.setCell]
theorem store3_bel {w0 w : World} {g B : Nat} (h : Below B w0 w) (hg : B ≤ g) (s : Bool) (b : RB) : Below B w0 (store3 w g s b) := bl_set (bl_set (bl_set h hg) hg) hg
theorem store3_box {w : World} {g : Nat} (h : Blk3 w g) (b : RB) (q : Rat) : Box3 (store3 w g (ratNeg q) b) g b q := by
  obtain ⟨s, A, n, c, A2, n2, c2, h⟩ := h
  exact set_blk (set_blk (set_blk h 0 _) 1 _) 2 _
theorem Blk3.no {w : World} {g : Nat} (h : Blk3 w g) : ∀ b i k, b = g → w.cell? ⟨b, i, none⟩ ≠ some (.int .u32 k) := by
  obtain ⟨s, A, n, c, A2, n2, c2, h⟩ := h
  intro b i k hb e
  subst hb
  rw [cell_of_blk h i] at e
  exact no_int3 _ _ _ (by simp) (by simp) (by simp) i k e
theorem store3_rat {w : World} {g : Nat} (h : Blk3 w g) {b : RB} {q : Rat} (hr : RatAt w b q) (s' : Bool) (b' : RB) : RatAt (store3 w g s' b') b q := hr.fr (store3_fr w g s' b') h.no
theorem store3_far {w : World} {g g' : Nat} (hne : g' ≠ g) (s : Bool) (b : RB) : (store3 w g s b).heap[g']? = w.heap[g']? := by
  unfold store3
  rw [set_far (by exact hne), set_far (by exact hne), set_far (by exact hne)]
theorem store3_blk {w : World} {g g' : Nat} (h : Blk3 w g) (h' : Blk3 w g') (s : Bool) (b : RB) : Blk3 (store3 w g s b) g' := by
  by_cases hne : g' = g
  · subst hne
    obtain ⟨s0, A, n, c, A2, n2, c2, h⟩ := h
    exact ⟨_, _, _, _, _, _, _, set_blk (set_blk (set_blk h 0 _) 1 _) 2 _⟩
  · obtain ⟨s0, A, n, c, A2, n2, c2, h'⟩ := h'
    exact ⟨s0, A, n, c, A2, n2, c2, (store3_far hne s b).trans h'⟩

/-- the value is a number's, as it lies in the world. -/
def RatV (w : World) (v : Value) (k : Nat) : Prop := ∃ (b : RB) (q : Rat), v = .agg #[.bool (ratNeg q), .slice b.A b.n b.c, .slice b.A2 b.n2 b.c2] ∧ RatAt w b q ∧ RatLe q k
theorem RatV.below {w w' : World} {v : Value} {k : Nat} (h : RatV w v k) (hb : Below w.heap.size w w') : RatV w' v k := by
  obtain ⟨b, q, e, hr, hl⟩ := h
  exact ⟨b, q, e, hr.below hb, hl⟩
theorem RatV.store {w : World} {v : Value} {k g : Nat} (hB : Blk3 w g) (h : RatV w v k) (s : Bool) (b' : RB) : RatV (store3 w g s b') v k := by
  obtain ⟨b, q, e, hr, hl⟩ := h
  exact ⟨b, q, e, store3_rat hB hr s b', hl⟩
/-- a box with a number of its own. -/
def BoxV (w : World) (B : Nat) (v : Value) (k : Nat) : Prop := ∃ (g : Nat) (b : RB) (q : Rat), v = .pointer (some ⟨g, 0, none⟩) ∧ B ≤ g ∧ Box3 w g b q ∧ RatAt w b q ∧ RatLe q k
theorem BoxV.below {w w' : World} {B : Nat} {v : Value} {k : Nat} (h : BoxV w B v k) (hb : Below w.heap.size w w') : BoxV w' B v k := by
  obtain ⟨g, b, q, e, hg, hx, hr, hl⟩ := h
  exact ⟨g, b, q, e, hg, hx.below hb, hr.below hb, hl⟩
theorem BoxV.store {w : World} {B : Nat} {v : Value} {k g : Nat} (hB : Blk3 w g) (h : BoxV w B v k) (hne : v ≠ .pointer (some ⟨g, 0, none⟩)) (s : Bool) (b' : RB) : BoxV (store3 w g s b') B v k := by
  obtain ⟨g', b, q, e, hg, hx, hr, hl⟩ := h
  subst e
  refine ⟨g', b, q, rfl, hg, ?_, store3_rat hB hr s b', hl⟩
  refine (store3_far ?_ s b').trans hx
  rintro rfl
  exact hne rfl
def NewV (w : World) (B : Nat) (v : Value) : Prop := ∃ g, v = .pointer (some ⟨g, 0, none⟩) ∧ B ≤ g ∧ Blk3 w g
theorem NewV.below {w w' : World} {B : Nat} {v : Value} (h : NewV w B v) (hb : Below w.heap.size w w') : NewV w' B v := by
  obtain ⟨g, e, hg, hx⟩ := h
  exact ⟨g, e, hg, hx.below hb⟩
theorem NewV.store {w : World} {B : Nat} {v : Value} {g : Nat} (hB : Blk3 w g) (h : NewV w B v) (s : Bool) (b' : RB) : NewV (store3 w g s b') B v := by
  obtain ⟨g', e, hg, hx⟩ := h
  exact ⟨g', e, hg, store3_blk hB hx s b'⟩
theorem newV_alloc (w : World) (B : Nat) (hB : B ≤ w.heap.size) : NewV (w.alloc (.cells #[.bool false, .slice none 0 0, .slice none 0 0] 50)) B (.pointer (some ⟨w.heap.size, 0, none⟩)) := ⟨_, rfl, hB, _, _, _, _, _, _, _, heap_alloc_new w _⟩

/-- 'x, y := f(..), g(..)' of two numbers, in whatever order: loads 0 (slot s0) and 2 (s2), calls 1 (s1) and 3 (s3), boxes 4 (p) and 5 (q), stores 6 and 7. -/
structure Two (w0 : World) (va vb : Value) (s0 s1 s2 s3 p q k : Nat) (D : Nat → Bool) (f : Nat → Value) (w : World) : Prop where
  bel : Below w0.heap.size w0 w
  l0 : D 0 = true → f s0 = va
  c1 : D 1 = true → RatV w (f s1) k
  l2 : D 2 = true → f s2 = vb
  c3 : D 3 = true → RatV w (f s3) k
  a4 : D 4 = true → NewV w w0.heap.size (f p)
  a5 : D 5 = true → NewV w w0.heap.size (f q)
  b6 : D 6 = true → D 4 = true ∧ BoxV w w0.heap.size (f p) k
  b7 : D 7 = true → D 5 = true ∧ BoxV w w0.heap.size (f q) k
  ne : D 4 = true → D 5 = true → f p ≠ f q

section
variable {w0 w w' : World} {va vb : Value} {s0 s1 s2 s3 p q k : Nat} {D : Nat → Bool} {f : Nat → Value}
def upd (f : Nat → Value) (s : Nat) (v : Value) : Nat → Value := fun j => if j = s then v else f j
theorem upd_self (f : Nat → Value) (s : Nat) (v : Value) : upd f s v s = v := if_pos rfl
theorem upd_ne (f : Nat → Value) {s j : Nat} (v : Value) (h : j ≠ s) : upd f s v j = f j := if_neg h
theorem Two.below (h : Two w0 va vb s0 s1 s2 s3 p q k D f w) (hb : Below w.heap.size w w') : Two w0 va vb s0 s1 s2 s3 p q k D f w' :=
  ⟨h.bel.trans (hb.mono h.bel.size), h.l0, fun d => (h.c1 d).below hb, h.l2, fun d => (h.c3 d).below hb, fun d => (h.a4 d).below hb, fun d => (h.a5 d).below hb, fun d => ⟨(h.b6 d).1, (h.b6 d).2.below hb⟩, fun d => ⟨(h.b7 d).1, (h.b7 d).2.below hb⟩, h.ne⟩
theorem two_start (f : Nat → Value) (w : World) : Two w va vb s0 s1 s2 s3 p q k (fun _ => false) f w.drew :=
  ⟨below_drew2 (Below.refl _ _), nofun, nofun, nofun, nofun, nofun, nofun, nofun, nofun, nofun⟩
theorem dn {D : Nat → Bool} {i j : Nat} (h : i ≠ j) : ((fun m => m == j || D m) i = true) → D i = true := by
  intro e
  simp only [Bool.or_eq_true, beq_iff_eq] at e
  exact e.resolve_left h
theorem Two.set0 (h : Two w0 va vb s0 s1 s2 s3 p q k D f w) (hn : [s0, s1, s2, s3, p, q].Nodup) : Two w0 va vb s0 s1 s2 s3 p q k (fun m => m == 0 || D m) (upd f s0 va) w := by
  simp at hn
  have e1 := upd_ne (s := s0) (j := s1) f va (by omega)
  have e2 := upd_ne (s := s0) (j := s2) f va (by omega)
  have e3 := upd_ne (s := s0) (j := s3) f va (by omega)
  have e4 := upd_ne (s := s0) (j := p) f va (by omega)
  have e5 := upd_ne (s := s0) (j := q) f va (by omega)
  exact ⟨h.bel, fun _ => upd_self _ _ _, fun d => by rw [e1]; exact h.c1 (dn (by decide) d), fun d => by rw [e2]; exact h.l2 (dn (by decide) d), fun d => by rw [e3]; exact h.c3 (dn (by decide) d), fun d => by rw [e4]; exact h.a4 (dn (by decide) d), fun d => by rw [e5]; exact h.a5 (dn (by decide) d), fun d => by rw [e4]; exact ⟨by simp [(h.b6 (dn (by decide) d)).1], (h.b6 (dn (by decide) d)).2⟩, fun d => by rw [e5]; exact ⟨by simp [(h.b7 (dn (by decide) d)).1], (h.b7 (dn (by decide) d)).2⟩, fun d d' => by rw [e4, e5]; exact h.ne (dn (by decide) d) (dn (by decide) d')⟩
theorem Two.set2 (h : Two w0 va vb s0 s1 s2 s3 p q k D f w) (hn : [s0, s1, s2, s3, p, q].Nodup) : Two w0 va vb s0 s1 s2 s3 p q k (fun m => m == 2 || D m) (upd f s2 vb) w := by
  simp at hn
  have e0 := upd_ne (s := s2) (j := s0) f vb (by omega)
  have e1 := upd_ne (s := s2) (j := s1) f vb (by omega)
  have e3 := upd_ne (s := s2) (j := s3) f vb (by omega)
  have e4 := upd_ne (s := s2) (j := p) f vb (by omega)
  have e5 := upd_ne (s := s2) (j := q) f vb (by omega)
  exact ⟨h.bel, fun d => by rw [e0]; exact h.l0 (dn (by decide) d), fun d => by rw [e1]; exact h.c1 (dn (by decide) d), fun _ => upd_self _ _ _, fun d => by rw [e3]; exact h.c3 (dn (by decide) d), fun d => by rw [e4]; exact h.a4 (dn (by decide) d), fun d => by rw [e5]; exact h.a5 (dn (by decide) d), fun d => by rw [e4]; exact ⟨by simp [(h.b6 (dn (by decide) d)).1], (h.b6 (dn (by decide) d)).2⟩, fun d => by rw [e5]; exact ⟨by simp [(h.b7 (dn (by decide) d)).1], (h.b7 (dn (by decide) d)).2⟩, fun d d' => by rw [e4, e5]; exact h.ne (dn (by decide) d) (dn (by decide) d')⟩
theorem Two.set1 (h : Two w0 va vb s0 s1 s2 s3 p q k D f w) (hn : [s0, s1, s2, s3, p, q].Nodup) (v : Value) (hv : RatV w v k) : Two w0 va vb s0 s1 s2 s3 p q k (fun m => m == 1 || D m) (upd f s1 v) w := by
  simp at hn
  have e0 := upd_ne (s := s1) (j := s0) f v (by omega)
  have e2 := upd_ne (s := s1) (j := s2) f v (by omega)
  have e3 := upd_ne (s := s1) (j := s3) f v (by omega)
  have e4 := upd_ne (s := s1) (j := p) f v (by omega)
  have e5 := upd_ne (s := s1) (j := q) f v (by omega)
  exact ⟨h.bel, fun d => by rw [e0]; exact h.l0 (dn (by decide) d), fun _ => by rw [upd_self]; exact hv, fun d => by rw [e2]; exact h.l2 (dn (by decide) d), fun d => by rw [e3]; exact h.c3 (dn (by decide) d), fun d => by rw [e4]; exact h.a4 (dn (by decide) d), fun d => by rw [e5]; exact h.a5 (dn (by decide) d), fun d => by rw [e4]; exact ⟨by simp [(h.b6 (dn (by decide) d)).1], (h.b6 (dn (by decide) d)).2⟩, fun d => by rw [e5]; exact ⟨by simp [(h.b7 (dn (by decide) d)).1], (h.b7 (dn (by decide) d)).2⟩, fun d d' => by rw [e4, e5]; exact h.ne (dn (by decide) d) (dn (by decide) d')⟩
theorem Two.set3 (h : Two w0 va vb s0 s1 s2 s3 p q k D f w) (hn : [s0, s1, s2, s3, p, q].Nodup) (v : Value) (hv : RatV w v k) : Two w0 va vb s0 s1 s2 s3 p q k (fun m => m == 3 || D m) (upd f s3 v) w := by
  simp at hn
  have e0 := upd_ne (s := s3) (j := s0) f v (by omega)
  have e1 := upd_ne (s := s3) (j := s1) f v (by omega)
  have e2 := upd_ne (s := s3) (j := s2) f v (by omega)
  have e4 := upd_ne (s := s3) (j := p) f v (by omega)
  have e5 := upd_ne (s := s3) (j := q) f v (by omega)
  exact ⟨h.bel, fun d => by rw [e0]; exact h.l0 (dn (by decide) d), fun d => by rw [e1]; exact h.c1 (dn (by decide) d), fun d => by rw [e2]; exact h.l2 (dn (by decide) d), fun _ => by rw [upd_self]; exact hv, fun d => by rw [e4]; exact h.a4 (dn (by decide) d), fun d => by rw [e5]; exact h.a5 (dn (by decide) d), fun d => by rw [e4]; exact ⟨by simp [(h.b6 (dn (by decide) d)).1], (h.b6 (dn (by decide) d)).2⟩, fun d => by rw [e5]; exact ⟨by simp [(h.b7 (dn (by decide) d)).1], (h.b7 (dn (by decide) d)).2⟩, fun d d' => by rw [e4, e5]; exact h.ne (dn (by decide) d) (dn (by decide) d')⟩

theorem Two.set4 (h : Two w0 va vb s0 s1 s2 s3 p q k D f w) (hn : [s0, s1, s2, s3, p, q].Nodup) (hD : D 4 = false) : Two w0 va vb s0 s1 s2 s3 p q k (fun m => m == 4 || D m) (upd f p (.pointer (some ⟨w.heap.size, 0, none⟩))) (w.alloc (.cells #[.bool false, .slice none 0 0, .slice none 0 0] 50)) := by
  have hb : Below w.heap.size w (w.alloc (.cells #[.bool false, .slice none 0 0, .slice none 0 0] 50)) := (Below.refl _ _).alloc (Nat.le_refl _) _
  have hnew := newV_alloc w w0.heap.size h.bel.size
  have k := h.below hb
  simp at hn
  have e0 := upd_ne (s := p) (j := s0) f (.pointer (some ⟨w.heap.size, 0, none⟩)) (by omega)
  have e1 := upd_ne (s := p) (j := s1) f (.pointer (some ⟨w.heap.size, 0, none⟩)) (by omega)
  have e2 := upd_ne (s := p) (j := s2) f (.pointer (some ⟨w.heap.size, 0, none⟩)) (by omega)
  have e3 := upd_ne (s := p) (j := s3) f (.pointer (some ⟨w.heap.size, 0, none⟩)) (by omega)
  have e5 := upd_ne (s := p) (j := q) f (.pointer (some ⟨w.heap.size, 0, none⟩)) (by omega)
  refine ⟨k.bel, fun d => by rw [e0]; exact k.l0 (dn (by decide) d), fun d => by rw [e1]; exact k.c1 (dn (by decide) d), fun d => by rw [e2]; exact k.l2 (dn (by decide) d), fun d => by rw [e3]; exact k.c3 (dn (by decide) d), fun d => by rw [upd_self]; exact hnew, fun d => by rw [e5]; exact k.a5 (dn (by decide) d), fun d => ?_, fun d => by rw [e5]; exact ⟨by simp [(k.b7 (dn (by decide) d)).1], (k.b7 (dn (by decide) d)).2⟩, fun d d' => ?_⟩
  · have := (k.b6 (dn (by decide) d)).1
    rw [hD] at this
    cases this
  · rw [e5, upd_self]
    obtain ⟨g, e, _, hx⟩ := h.a5 (dn (by decide) d')
    have := hx.lt
    rw [e]
    intro e
    injection e with e
    injection e with e
    injection e with e
    omega
theorem Two.set5 (h : Two w0 va vb s0 s1 s2 s3 p q k D f w) (hn : [s0, s1, s2, s3, p, q].Nodup) (hD : D 5 = false) : Two w0 va vb s0 s1 s2 s3 p q k (fun m => m == 5 || D m) (upd f q (.pointer (some ⟨w.heap.size, 0, none⟩))) (w.alloc (.cells #[.bool false, .slice none 0 0, .slice none 0 0] 50)) := by
  have hb : Below w.heap.size w (w.alloc (.cells #[.bool false, .slice none 0 0, .slice none 0 0] 50)) := (Below.refl _ _).alloc (Nat.le_refl _) _
  have hnew := newV_alloc w w0.heap.size h.bel.size
  have k := h.below hb
  simp at hn
  have e0 := upd_ne (s := q) (j := s0) f (.pointer (some ⟨w.heap.size, 0, none⟩)) (by omega)
  have e1 := upd_ne (s := q) (j := s1) f (.pointer (some ⟨w.heap.size, 0, none⟩)) (by omega)
  have e2 := upd_ne (s := q) (j := s2) f (.pointer (some ⟨w.heap.size, 0, none⟩)) (by omega)
  have e3 := upd_ne (s := q) (j := s3) f (.pointer (some ⟨w.heap.size, 0, none⟩)) (by omega)
  have e4 := upd_ne (s := q) (j := p) f (.pointer (some ⟨w.heap.size, 0, none⟩)) (by omega)
  refine ⟨k.bel, fun d => by rw [e0]; exact k.l0 (dn (by decide) d), fun d => by rw [e1]; exact k.c1 (dn (by decide) d), fun d => by rw [e2]; exact k.l2 (dn (by decide) d), fun d => by rw [e3]; exact k.c3 (dn (by decide) d), fun d => by rw [e4]; exact k.a4 (dn (by decide) d), fun d => by rw [upd_self]; exact hnew, fun d => by rw [e4]; exact ⟨by simp [(k.b6 (dn (by decide) d)).1], (k.b6 (dn (by decide) d)).2⟩, fun d => ?_, fun d d' => ?_⟩
  · have := (k.b7 (dn (by decide) d)).1
    rw [hD] at this
    cases this
  · rw [e4, upd_self]
    obtain ⟨g, e, _, hx⟩ := h.a4 (dn (by decide) d)
    have := hx.lt
    rw [e]
    intro e
    injection e with e
    injection e with e
    injection e with e
    omega
theorem Two.set6 {g : Nat} {b : RB} {r : Rat} (h : Two w0 va vb s0 s1 s2 s3 p q k D f w) (hr : RatAt w b r) (hl : RatLe r k) (h4 : D 4 = true) (hg : f p = .pointer (some ⟨g, 0, none⟩)) : Two w0 va vb s0 s1 s2 s3 p q k (fun m => m == 6 || D m) f (store3 w g (ratNeg r) b) := by
  obtain ⟨g', e, hgl, hx⟩ := h.a4 h4
  rw [hg] at e
  injection e with e
  injection e with e
  injection e with e
  subst e
  refine ⟨store3_bel h.bel hgl _ _, fun d => h.l0 (dn (by decide) d), fun d => (h.c1 (dn (by decide) d)).store hx _ _, fun d => h.l2 (dn (by decide) d), fun d => (h.c3 (dn (by decide) d)).store hx _ _, fun d => (h.a4 h4).store hx _ _, fun d => (h.a5 (dn (by decide) d)).store hx _ _, fun d => ⟨by simp [h4], g, b, r, hg, hgl, store3_box hx b r, store3_rat hx hr _ _, hl⟩, fun d => ?_, fun d d' => h.ne (dn (by decide) d) (dn (by decide) d')⟩
  obtain ⟨h5, h7⟩ := h.b7 (dn (by decide) d)
  refine ⟨by simp [h5], h7.store hx ?_ _ _⟩
  rw [← hg]
  exact fun e => h.ne h4 h5 e.symm
theorem Two.set7 {g : Nat} {b : RB} {r : Rat} (h : Two w0 va vb s0 s1 s2 s3 p q k D f w) (hr : RatAt w b r) (hl : RatLe r k) (h5 : D 5 = true) (hg : f q = .pointer (some ⟨g, 0, none⟩)) : Two w0 va vb s0 s1 s2 s3 p q k (fun m => m == 7 || D m) f (store3 w g (ratNeg r) b) := by
  obtain ⟨g', e, hgl, hx⟩ := h.a5 h5
  rw [hg] at e
  injection e with e
  injection e with e
  injection e with e
  subst e
  refine ⟨store3_bel h.bel hgl _ _, fun d => h.l0 (dn (by decide) d), fun d => (h.c1 (dn (by decide) d)).store hx _ _, fun d => h.l2 (dn (by decide) d), fun d => (h.c3 (dn (by decide) d)).store hx _ _, fun d => (h.a4 (dn (by decide) d)).store hx _ _, fun d => (h.a5 h5).store hx _ _, fun d => ?_, fun d => ⟨by simp [h5], g, b, r, hg, hgl, store3_box hx b r, store3_rat hx hr _ _, hl⟩, fun d d' => h.ne (dn (by decide) d) (dn (by decide) d')⟩
  obtain ⟨h4, h6⟩ := h.b6 (dn (by decide) d)
  refine ⟨by simp [h4], h6.store hx ?_ _ _⟩
  rw [← hg]
  exact h.ne h4 h5
end
end Go.Proofs.YtlbbbafehhdpnaaDoor
