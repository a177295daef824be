/- Contracts of attestref03.Gcd and attestref05.Of on lists of bits. -/
import Derived.Test.YtlbbbafehhdpnaaGreatDoorBtSub
namespace Go.Proofs.YtlbbbafehhdpnaaGreatDoor
open Go.RowKit
set_option linter.unusedVariables false
set_option linter.unusedSimpArgs false

set_option maxRecDepth 100000 in
theorem rgcd_any {w : World} {A A2 : Option Addr} {n c n2 c2 : Nat} {L M : List Bool} (h : Bts w A n c L) (h2 : Bts w A2 n2 c2 M) (hn : n ≤ 100000) (hn2 : n2 ≤ 100000) (t1 : tight L) (t2 : tight M) (hp : 0 < bvl M) :
    Calls Tryz.prog 64 #[.slice A n c, .slice A2 n2 c2] w fun e w' => ∃ A1 n1 c1, e = .returned (.slice A1 n1 c1) ∧ ∃ g, Bts w' A1 n1 c1 g ∧ tight g ∧ 0 < bvl g ∧ n1 ≤ 100000 ∧ Below w.heap.size w w' := by
  have H1 := Lib.hid h
  have H3 := Lib.hid h2
  have HP := Lib.hid hp
  have HT1 := Lib.hid t1
  have HT2 := Lib.hid t2
  clear h h2 hp t1 t2
  go_enter Tryz.func64, Tryz.ntmps64
  go_wp2_with fail
  go_loopg [0, 1] (bvl M) (fun γ a b wr => ∃ (K : Nat) (A4 : Option Addr) (n4 c4 : Nat) (A5 : Option Addr) (n5 c5 : Nat) (l4 l5 : List Bool), γ = K ∧ a = .slice A4 n4 c4 ∧ b = .slice A5 n5 c5 ∧ K = bvl l5 ∧ n4 ≤ 100000 ∧ n5 ≤ 100000 ∧ tight l4 ∧ tight l5 ∧ (0 < bvl l4 ∨ 0 < bvl l5) ∧ Bts wr A4 n4 c4 l4 ∧ Bts wr A5 n5 c5 l5 ∧ Below w.heap.size w wr)
  case atStart => exact ⟨_, _, _, _, _, _, _, L, M, rfl, rfl, rfl, rfl, hn, hn2, HT1.out, HT2.out, .inr HP.out, H1.out, H3.out, Below.refl _ _⟩
  case round =>
    obtain ⟨K, A4, n4, c4, A5, n5, c5, l4, l5, hMe, rfl, rfl, hK, hn4, hn5, t4, t5, hpo, h4, h5, hbw⟩ := hrel
    have hMe' := hMe.symm
    subst hMe'
    clear hMe
    have HBW := Lib.hid hbw
    have hl5 := h5.len
    have HK := Lib.hid hK
    by_cases h0 : n5 = 0
    · subst h0
      have h40 : 0 < bvl l4 := by
        have := (tight_zero l5 t5).1 hl5
        omega
      have H4 := Lib.hid h4
      have HT4 := Lib.hid t4
      have H40 := Lib.hid h40
      clear h4 h5 hbw hK hl5 t4 h40 hpo
      go_wp2_with fail
      go_ret
      exact ⟨_, _, _, rfl, l4, H4.out, HT4.out, H40.out, hn4, HBW.out⟩
    · have hpos : 0 < bvl l5 := by
        rcases Nat.eq_zero_or_pos (bvl l5) with e | e
        · have := (tight_zero l5 t5).2 e
          omega
        · exact e
      have hdm := rdiv_any h4 h5 hn4 hn5 t5 hpos
      have hn50 : 0 < n5 := by omega
      have HDM := Lib.hid hdm
      have H5 := Lib.hid h5
      have HT5 := Lib.hid t5
      have HPOS := Lib.hid hpos
      clear hdm h4 h5 hbw hpos hK hpo hl5 t5
      go_wp2_with (go_at_call 65; refine HDM.out.mono ?_; rintro e w6 ⟨A6, n6, c6, A7, n7, c7, rfl, q, r, hq, tq, nq, hr, tr, hlr, nr, b6⟩)
      go_roundg (bvl r)
      case measure => rw [HK.out]; exact hlr
      case rel => exact ⟨_, _, _, _, _, _, _, l5, r, rfl, rfl, rfl, rfl, hn5, by omega, HT5.out, tr, .inl HPOS.out, H5.out.below b6, hr, HBW.out.trans (b6.mono HBW.out.size)⟩

def Agg3 (e : Ending) : Prop := ∃ z A1 n1 c1 A3 n3 c3, e = .returned (.agg #[.bool z, .slice A1 n1 c1, .slice A3 n3 c3])
set_option maxRecDepth 100000 in
theorem rof5_any {w : World} {A A2 : Option Addr} {n c n2 c2 : Nat} {L M : List Bool} (s : Bool) (h : Bts w A n c L) (h2 : Bts w A2 n2 c2 M) (hn : n ≤ 100000) (hn2 : n2 ≤ 100000) (t1 : tight L) (t2 : tight M) (hp : 0 < bvl M) :
    Calls Tryz.prog 48 #[.bool s, .slice A n c, .slice A2 n2 c2] w fun e w' => Agg3 e ∧ Below w.heap.size w w' := by
  have hgd := fun W hW => rgcd_any (w := W) (h.below hW) (h2.below hW) hn hn2 t1 t2 hp
  have H1 := Lib.hid h
  have H2 := Lib.hid h2
  have HGD := Lib.hid hgd
  clear h h2 hgd hp t1 t2
  go_enter Tryz.func48, Tryz.ntmps48
  go_upto_region 1 with fail
  have hr3 := heap_alloc_new w (.cells #[.bool false, .slice none 0 0, .slice none 0 0] 85)
  have hbw := (Below.refl w.heap.size w).alloc (Nat.le_refl _) (.cells #[.bool false, .slice none 0 0, .slice none 0 0] 85)
  obtain ⟨wz, hwz⟩ : ∃ x, x = w.alloc (.cells #[.bool false, .slice none 0 0, .slice none 0 0] 85) := ⟨_, rfl⟩
  rw [← hwz] at hr3 hbw ⊢
  have HR3 := Lib.hid hr3
  have HBW := Lib.hid hbw
  clear hwz hr3 hbw
  by_cases h1 : n2 = 1
  · have h1' : ((n2 : Int) == 1) = true := by simp [h1]
    have HR := HR3
    have HB := HBW
    clear h1
    obtain ⟨r0, r1, r2⟩ := Box.of HR.out
    have s0 := frozen_of_blk HR.out 0
    have s1' := frozen_of_blk HR.out 1
    have s2' := frozen_of_blk HR.out 2
    cases s
    · go_wp2_with fail
      refine bodyPost_ret (v := .agg #[.bool false, .slice A n c, .slice A2 n2 c2]) (by simp [results, Tryz.results48, go_sem, r0, r1, r2]) rfl ?_
      exact ⟨⟨_, _, _, _, _, _, _, rfl⟩, bl_set (bl_set (bl_set HB.out (Nat.le_refl _)) (Nat.le_refl _)) (Nat.le_refl _)⟩
    · by_cases h0 : 0 < n
      · have h0' : (0 : Int) < (n : Int) := by omega
        go_wp2_with fail
        refine bodyPost_ret (v := .agg #[.bool true, .slice A n c, .slice A2 n2 c2]) (by simp [results, Tryz.results48, go_sem, r0, r1, r2]) rfl ?_
        exact ⟨⟨_, _, _, _, _, _, _, rfl⟩, bl_set (bl_set (bl_set HB.out (Nat.le_refl _)) (Nat.le_refl _)) (Nat.le_refl _)⟩
      · have h0' : ¬ (0 : Int) < (n : Int) := by omega
        go_wp2_with fail
        refine bodyPost_ret (v := .agg #[.bool false, .slice A n c, .slice A2 n2 c2]) (by simp [results, Tryz.results48, go_sem, r0, r1, r2]) rfl ?_
        exact ⟨⟨_, _, _, _, _, _, _, rfl⟩, bl_set (bl_set (bl_set HB.out (Nat.le_refl _)) (Nat.le_refl _)) (Nat.le_refl _)⟩
  · have h1' : ((n2 : Int) == 1) = false := by rw [beq_eq_false_iff_ne]; omega
    have hgd := HGD.out wz HBW.out
    clear h1
    go_upto_region 4 with (go_at_call 64; refine hgd.mono ?_; clear hgd; rintro e w4 ⟨A4, n4, c4, rfl, g, hg, tg, hg0, hn4, b4⟩)
    have hb4 := HBW.out.trans (b4.mono HBW.out.size)
    have hr4 := box_keep HR3.out b4
    have hd1 := rdiv_any (H1.out.below hb4) hg hn hn4 tg hg0
    have HG := Lib.hid hg
    have HTG := Lib.hid tg
    have HG0 := Lib.hid hg0
    have HB4 := Lib.hid hb4
    have HR4 := Lib.hid hr4
    clear hg tg hg0 b4 hb4 hr4
    go_upto_region 5 with (go_at_call 65; refine hd1.mono ?_; clear hd1; rintro e w5 ⟨A5, n5, c5, A6, n6, c6, rfl, q5, r5, hq5, tq5, nq5, hr5, tr5, hlr5, nr5, b5⟩)
    have hb5 := HB4.out.trans (b5.mono HB4.out.size)
    have hr5' := box_keep HR4.out b5
    have hd2 := rdiv_any (H2.out.below hb5) (HG.out.below b5) hn2 hn4 HTG.out HG0.out
    have HB5 := Lib.hid hb5
    have HR5 := Lib.hid hr5'
    clear hq5 tq5 hr5 tr5 hlr5 b5 hb5 hr5'
    go_upto_region 6 with (go_at_call 65; refine hd2.mono ?_; clear hd2; rintro e w7 ⟨A7, n7, c7, A8, n8, c8, rfl, q7, r7, hq7, tq7, nq7, hr7, tr7, hlr7, nr7, b7⟩)
    have HB := Lib.hid (HB5.out.trans (b7.mono HB5.out.size))
    have HR := Lib.hid (box_keep HR5.out b7)
    clear hq7 tq7 hr7 tr7 hlr7 b7
    obtain ⟨r0, r1, r2⟩ := Box.of HR.out
    have s0 := frozen_of_blk HR.out 0
    have s1' := frozen_of_blk HR.out 1
    have s2' := frozen_of_blk HR.out 2
    cases s
    · go_wp2_with fail
      refine bodyPost_ret (v := .agg #[.bool false, .slice A5 n5 c5, .slice A7 n7 c7]) (by simp [results, Tryz.results48, go_sem, r0, r1, r2]) rfl ?_
      exact ⟨⟨_, _, _, _, _, _, _, rfl⟩, bl_set (bl_set (bl_set HB.out (Nat.le_refl _)) (Nat.le_refl _)) (Nat.le_refl _)⟩
    · by_cases h0 : 0 < n5
      · have h0' : (0 : Int) < (n5 : Int) := by omega
        go_wp2_with fail
        refine bodyPost_ret (v := .agg #[.bool true, .slice A5 n5 c5, .slice A7 n7 c7]) (by simp [results, Tryz.results48, go_sem, r0, r1, r2]) rfl ?_
        exact ⟨⟨_, _, _, _, _, _, _, rfl⟩, bl_set (bl_set (bl_set HB.out (Nat.le_refl _)) (Nat.le_refl _)) (Nat.le_refl _)⟩
      · have h0' : ¬ (0 : Int) < (n5 : Int) := by omega
        go_wp2_with fail
        refine bodyPost_ret (v := .agg #[.bool false, .slice A5 n5 c5, .slice A7 n7 c7]) (by simp [results, Tryz.results48, go_sem, r0, r1, r2]) rfl ?_
        exact ⟨⟨_, _, _, _, _, _, _, rfl⟩, bl_set (bl_set (bl_set HB.out (Nat.le_refl _)) (Nat.le_refl _)) (Nat.le_refl _)⟩
end Go.Proofs.YtlbbbafehhdpnaaGreatDoor

namespace Go.Proofs.YtlbbbafehhdpnaaGreatDoor
open Go.RowKit
set_option linter.unusedVariables false
set_option linter.unusedSimpArgs false

def OfI (l : List Nat) (o : List Bool) (i k Y : Nat) : Prop := o.length = 32 * i + k ∧ Y * 2 ^ k < 2 ^ 32 ∧ bvl o + 2 ^ (32 * i + k) * Y = lv (l.take (i + 1))
theorem ofI_start {l : List Nat} {o : List Bool} {i X : Nat} (hl : o.length = 32 * i) (hv : bvl o = lv (l.take i)) (hx : X < 4294967296) (hs : lv (l.take (i + 1)) = lv (l.take i) + 2 ^ (32 * i) * X) : OfI l o i 0 X :=
  ⟨hl, by simpa using hx, by rw [hv, hs]; rfl⟩
theorem ofI_step {l : List Nat} {o : List Bool} {i k Y : Nat} (h : OfI l o i k Y) (b : Bool) (hb : b.toNat = Y % 2) : OfI l (o ++ [b]) i (k + 1) (Y / 2) := by
  obtain ⟨h1, h2, h3⟩ := h
  refine ⟨by simp; omega, ?_, ?_⟩
  · have e : Y / 2 * 2 ^ (k + 1) = 2 * (Y / 2) * 2 ^ k := by rw [Nat.pow_succ, Nat.mul_comm (2 ^ k) 2, ← Nat.mul_assoc, Nat.mul_comm (Y / 2) 2]
    rw [e]
    exact Nat.lt_of_le_of_lt (Nat.mul_le_mul_right _ (by omega)) h2
  · rw [← h3, bvl_snoc, h1, hb, show 32 * i + (k + 1) = 32 * i + k + 1 by omega, Nat.pow_succ]
    generalize 2 ^ (32 * i + k) = p
    have e : p * Y = p * (Y % 2) + p * 2 * (Y / 2) := by
      rw [Nat.mul_assoc, ← Nat.mul_add]
      congr 1
      omega
    omega
theorem ofI_end {l : List Nat} {o : List Bool} {i Y : Nat} (h : OfI l o i 32 Y) : o.length = 32 * (i + 1) ∧ bvl o = lv (l.take (i + 1)) := by
  obtain ⟨h1, h2, h3⟩ := h
  obtain rfl : Y = 0 := by
    rcases Nat.eq_zero_or_pos Y with e | e
    · exact e
    · have : 1 * 2 ^ 32 ≤ Y * 2 ^ 32 := Nat.mul_le_mul_right _ e
      omega
  exact ⟨by omega, by rw [← h3]; simp⟩
theorem odd_bool (Y : Nat) : ((((Y : Int) % 2 == 1) : Bool)).toNat = Y % 2 := by
  rcases Nat.mod_two_eq_zero_or_one Y with h | h
  · rw [show ((Y : Int) % 2 == 1) = false by rw [beq_eq_false_iff_ne]; omega, h]; rfl
  · rw [show ((Y : Int) % 2 == 1) = true by rw [beq_iff_eq]; omega, h]; rfl
set_option maxRecDepth 100000 in
theorem rof2_any {w : World} {A : Option Addr} {n c : Nat} {l : List Nat} (h : Num w A n c l) (hn : n ≤ 3000) :
    Calls Tryz.prog 44 #[.slice A n c] w fun e w' => ∃ A' n' c', e = .returned (.slice A' n' c') ∧ ∃ b, Bts w' A' n' c' b ∧ tight b ∧ bvl b = lv l ∧ n' ≤ 100000 ∧ Below w.heap.size w w' := by
  obtain ⟨i0, hi, hz0, hz1, hz2⟩ := info_parts info_bool
  have hl := h.len
  have hsm := h.sm
  have HR := Lib.hid h
  have HSM := Lib.hid hsm
  clear h hsm
  go_enter Tryz.func44, Tryz.ntmps44
  go_wp2_with fail
  go_loopw [3, 10] (fun v x wr => ∃ (i : Nat) (o : List Bool), i ≤ n ∧ x = .int .i64 i ∧ wr.ownsRow w.heap.size 4 1 v (32 * i) (boolL o) ∧ o.length = 32 * i ∧ bvl o = lv (l.take i) ∧ Below w.heap.size w wr) (fun _ x _ => n - (intOf x).toNat)
  case atStart => exact ⟨0, [], by omega, rfl, own_empty _ _ _ (Nat.le_refl _), rfl, rfl, (Below.refl _ _).alloc (Nat.le_refl _) _⟩
  case round =>
    obtain ⟨i, o, hin, rfl, hown, hol, hov, hb⟩ := hrel
    by_cases hlt : i < n
    · have hlt' : (i : Int) < (n : Int) := by omega
      obtain ⟨b1, o1, rfl, x0⟩ := (HR.out.rd.below hb).limb i (by omega) hl
      have hst := lv_take_succ l i (by omega)
      have hxs := HSM.out (l[i]'(by omega)) (List.getElem_mem _)
      rw [show l[i]'(by omega) = l.getD i 0 by rw [List.getD_eq_getElem?_getD, List.getElem?_eq_getElem (by omega)]; rfl] at hst hxs
      generalize l.getD i 0 = X at *
      have hin0 := ofI_start hol hov hxs hst
      have HI0 := Lib.hid hin0
      have HO0 := Lib.hid hown
      have HB0 := Lib.hid hb
      clear hin0 hown hb hol hov hst hxs
      go_wp2_with fail
      obtain ⟨w5, hw5⟩ : ∃ x, x = wr := ⟨_, rfl⟩
      rw [← hw5] at HO0 HB0 ⊢
      clear hw5
      go_loopw [3, 5, 6] (fun v y j wr => ∃ (k Y : Nat) (o : List Bool), k ≤ 32 ∧ j = .int .i64 k ∧ y = .int .u32 Y ∧ Y < 4294967296 ∧ wr.ownsRow w.heap.size 4 1 v (32 * i + k) (boolL o) ∧ OfI l o i k Y ∧ Below w.heap.size w wr) (fun _ _ j _ => 32 - (intOf j).toNat)
      case atStart => exact ⟨0, X, o, by omega, rfl, rfl, by have := HI0.out.2.1; omega, HO0.out, HI0.out, HB0.out⟩
      case round =>
        obtain ⟨k, Y, o3, hk, rfl, rfl, hY, hown, hi3, hb⟩ := hrel
        by_cases hk32 : k < 32
        · have hsp := ofI_step hi3 ((Y : Int) % 2 == 1) (odd_bool Y)
          have HSP := Lib.hid hsp
          have HOW := Lib.hid hown
          have HB := Lib.hid hb
          clear hsp hown hb hi3
          go_wp2_with (at_builtin; refine app1 w.heap.size w wr _ 4 rfl _ _ 83 rfl i0 (.bool false) 1 Tryz.underlying83 hi hz0 hz1 hz2 rfl (by decide) _ (32 * i + k) _ rfl (Nat.le_refl _) HOW.out HB.out rfl rfl (by omega) ?_)
          intro v1 w1 hown1 hb1 _
          have HO1 := Lib.hid hown1
          have HB1 := Lib.hid hb1
          clear hown1 hb1
          go_wp2_with fail
          go_roundw
          case rel => exact ⟨k + 1, Y / 2, o3 ++ [((Y : Int) % 2 == 1)], by omega, by first | rfl | go_num, by first | rfl | go_num, by omega, by rw [boolL_append]; exact HO1.out, HSP.out, HB1.out⟩
          case measure => simp [intOf]; omega
        · obtain rfl : k = 32 := by omega
          have he := ofI_end hi3
          have HE := Lib.hid he
          have HOW := Lib.hid hown
          have HB := Lib.hid hb
          clear he hown hb hi3
          go_wp2_with fail
          go_roundw
          case rel => exact ⟨i + 1, o3, by omega, by first | rfl | go_num, HOW.out, HE.out.1, HE.out.2, HB.out⟩
          case measure => simp [intOf]; omega
    · obtain rfl : i = n := by omega
      have hlt' : ¬ (i : Int) < (i : Int) := by omega
      rw [List.take_of_length_le (by omega)] at hov
      obtain ⟨A', c', rfl, ho, hfr⟩ := Bts.of hown
      have HCT := Lib.hid (rcut_any ho (by omega))
      have HB := Lib.hid hb
      have HV := Lib.hid hov
      clear ho hb hov hfr hown hol
      go_wp2_with (go_at_call 60; refine HCT.out.mono ?_; rintro e w9 ⟨k, rfl, hk, hkn, hw⟩; obtain rfl := hw.symm)
      go_ret
      exact ⟨_, _, _, rfl, cutB o, hk, tight_cut _, by rw [bvl_cut, HV.out], by omega, HB.out⟩
set_option maxRecDepth 100000 in
theorem copy_num {w : World} {A : Option Addr} {n c : Nat} {l : List Nat} (h : NumU w A n c l) (hn : n ≤ 3000) :
    Calls Tryz.prog 46 #[.slice A n c] w fun e w' => ∃ A' n' c', e = .returned (.slice A' n' c') ∧ Num w' A' n' c' l ∧ Below w.heap.size w w' := by
  obtain ⟨i0, hi, hz0, hz1, hz2⟩ := info_parts info_u32
  have hl := h.len
  have HR := Lib.hid h
  clear h
  go_enter Tryz.func46, Tryz.ntmps46
  go_wp2_with (at_builtin; refine appR w.heap.size w (w.alloc (.cells #[] 92)) 92 rfl _ _ 31 rfl i0 (.int .u32 0) 4 Tryz.underlying31 hi hz0 hz1 hz2 rfl (by decide) _ 0 [] rfl (Nat.le_refl _) (own_empty _ _ _ (Nat.le_refl _)) ((Below.refl _ _).alloc (Nat.le_refl _) _) A n c (lw l) rfl (HR.out.rd.alloc _) (one32 _) (by omega) ?_)
  intro v8 w8 ho8 hx _
  obtain ⟨A9, c9, rfl, hn9⟩ := Num.of (N := 0) (l := [] ++ l) ho8 (by simpa using HR.out.sm)
  have HN := Lib.hid hn9
  have HX := Lib.hid hx
  clear ho8 hx hn9
  go_wp2_with fail
  go_ret
  exact ⟨_, _, _, rfl, HN.out, HX.out⟩
set_option maxRecDepth 100000 in
theorem few5_num {w : World} {A : Option Addr} {n c : Nat} {l : List Nat} (h : NumU w A n c l) :
    Calls Tryz.prog 43 #[.slice A n c] w fun e w' => ∃ A' n' c', e = .returned (.slice A' n' c') ∧ Num w' A' n' c' (l.take 8) ∧ Below w.heap.size w w' := by
  have hl := h.len
  have hcp := h.cap
  by_cases h8 : 8 < n
  · have h1 : (8 : Int) < (n : Int) := by omega
    have ht : NumU w A 8 c (l.take 8) := ⟨by have := h.rd.take (show 8 ≤ n by omega); rw [lw_take] at this; exact this, by rw [List.length_take]; omega, by omega, small_take h.sm _⟩
    have hc := copy_num ht (by omega)
    have HC := Lib.hid hc
    have h2 : 8 ≤ c := by omega
    clear h ht hc
    go_enter Tryz.func43, Tryz.ntmps43
    go_wp2_with (go_at_call 46; refine HC.out.mono ?_; rintro e w1 ⟨A1, n1, c1, rfl, hn1, hb1⟩)
    go_ret
    exact ⟨_, _, _, rfl, hn1, hb1⟩
  · have h1 : ¬ (8 : Int) < (n : Int) := by omega
    have hc := copy_num h (by omega)
    rw [List.take_of_length_le (by omega)]
    have HC := Lib.hid hc
    clear h hc
    go_enter Tryz.func43, Tryz.ntmps43
    go_wp2_with (go_at_call 46; refine HC.out.mono ?_; rintro e w1 ⟨A1, n1, c1, rfl, hn1, hb1⟩)
    go_ret
    exact ⟨_, _, _, rfl, hn1, hb1⟩
end Go.Proofs.YtlbbbafehhdpnaaGreatDoor
