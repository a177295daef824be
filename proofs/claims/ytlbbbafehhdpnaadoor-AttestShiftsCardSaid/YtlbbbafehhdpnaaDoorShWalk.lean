/- The walk of attesttop.AttestShifts. -/
import Derived.Test.YtlbbbafehhdpnaaDoorNumOps
import Derived.Test.YtlbbbafehhdpnaaDoorAmong
import Derived.Test.YtlbbbafehhdpnaaDoorBitsUn
namespace Go.Proofs.YtlbbbafehhdpnaaDoor
open Go.RowKit
set_option linter.unusedVariables false
set_option linter.unusedSimpArgs false

theorem num_lit (w : World) (x : Nat) (hx : x < 4294967296) : Num (w.alloc (.cells #[.int .u32 (x : Int)] 25)) (some ⟨w.heap.size, 0, none⟩) 1 1 [x] :=
  ⟨rd_lit w _ _, rfl, Nat.le_refl _, fun y hy => by simp at hy; omega⟩
theorem limbs_word (N : Nat) (h : N < 4294967296) (h0 : N ≠ 0) : limbs N = [N] := by
  rw [limbs_pos N h0, show N / 4294967296 = 0 by omega, limbs_zero, show N % 4294967296 = N by omega]
theorem vint_bytes (u : Nat) : ∀ x ∈ vint u, 0 ≤ x ∧ x ≤ 255 := by
  induction u using Nat.strongRecOn with
  | ind u ih =>
    intro x hx
    by_cases h : u < 128
    · rw [vint_small u h] at hx
      simp at hx
      omega
    · rw [vint_big u (by omega)] at hx
      rcases List.mem_cons.1 hx with e | e
      · omega
      · exact ih (u / 128) (by omega) x e
theorem packs_bytes (us : List Nat) : ∀ x ∈ packs us, 0 ≤ x ∧ x ≤ 255 := by
  intro x hx
  obtain ⟨u, _, hu⟩ := List.mem_flatMap.1 hx
  exact vint_bytes u x hu
theorem below_alloc {B : Nat} {a w : World} (h : Below B a w) (hB : B ≤ a.heap.size) (o : Obj) : Below B a (w.alloc o) := h.alloc (Nat.le_trans hB h.size) o

theorem dec_len2 (N m : Nat) (h : N < 2 ^ (32 * m)) (hm : 0 < m) : (dec N).length ≤ 32 * m :=
  dec_len N (32 * m) (Nat.lt_of_lt_of_le h (Nat.pow_le_pow_left (by decide) _)) (by omega)
theorem sh_bounds (X k a b : Nat) (hX : X < 2 ^ (32 * a)) (hk : k < 32 * b) :
    (limbs (2 ^ k)).length ≤ b ∧ (limbs (X * 2 ^ k)).length ≤ a + b ∧ (limbs (X / 2 ^ k)).length ≤ a ∧ (limbs (X % 2 ^ k)).length ≤ a ∧ (limbs (X / 2 ^ k * 2 ^ k)).length ≤ a ∧ (dec (X * 2 ^ k)).length ≤ 32 * (a + b) := by
  have h0 : 2 ^ k < 2 ^ (32 * b) := Nat.pow_lt_pow_right (by decide) hk
  have h1 : X * 2 ^ k < 2 ^ (32 * (a + b)) := by
    rw [Nat.mul_add, Nat.pow_add]
    exact Nat.mul_lt_mul_of_lt_of_le hX (Nat.le_of_lt h0) (Nat.pow_pos (by decide))
  have h2 : X / 2 ^ k * 2 ^ k ≤ X := Nat.div_mul_le_self _ _
  exact ⟨limbs_len_le h0, limbs_len_le h1, limbs_len_le (Nat.lt_of_le_of_lt (Nat.div_le_self _ _) hX), limbs_len_le (Nat.lt_of_le_of_lt (Nat.mod_le _ _) hX), limbs_len_le (Nat.lt_of_le_of_lt h2 hX), dec_len2 _ _ h1 (by omega)⟩
set_option maxRecDepth 100000 in
set_option maxHeartbeats 8000000 in
theorem shifts_walk (xs : List Nat) (A : Option Addr) (n c : Nat) (K : Int) (w : World) (hx : Num w A n c xs) (hb : xs.length ≤ 35184372088000) (hK1 : -9223372036854775808 ≤ K) (hK2 : K ≤ 9223372036854775807) :
    Calls Tryd.prog 3 #[.slice A n c, .int .i64 K] w fun e w' => e = .returned (.bool true) ∧ Below w.heap.size w w' := by
  have hp1 : Calls Tryd.prog 5 #[.slice (some ⟨w.heap.size, 0, none⟩) 1 1, .int .i64 10] (w.alloc (.cells #[.int .u32 2] 25)) fun e w' => ∃ A' n' c', e = .returned (.tuple #[.slice A' n' c', .bool true]) ∧ Num w' A' n' c' [1024] ∧ Below w.heap.size w w' := by
    have h := pow_num 10 (num_lit w 2 (by decide)) (by decide) (by decide) (by decide)
    rw [show lv [2] ^ 10 = 1024 by decide, limbs_word 1024 (by decide) (by decide)] at h
    refine h.mono ?_
    rintro e w' ⟨A', n', c', e1, hn, hbw⟩
    exact ⟨A', n', c', e1, hn, ((Below.refl w.heap.size w).alloc (Nat.le_refl _) _).trans (hbw.mono (by simp))⟩
  have ham := fun W => among_any K 400 W (by decide) (by decide) hK1 hK2
  obtain ⟨k, hk⟩ : ∃ k : Nat, K % 400 = (k : Int) := ⟨(K % 400).toNat, by omega⟩
  have hk4 : k < 400 := by omega
  rw [hk] at ham
  have HP1 := Lib.hid hp1
  have HAM := Lib.hid ham
  have HX := Lib.hid hx
  clear hp1 ham hk hx
  go_enter Tryd.func3, Tryd.ntmps3
  go_upto_region 2 with (go_at_call 5; refine HP1.out.mono ?_; rintro e w1 ⟨A1, n1, c1, rfl, h1, hb1⟩)
  have hsm : Calls Tryd.prog 6 #[.slice A1 n1 c1, .slice (some ⟨w1.heap.size, 0, none⟩) 1 1] (w1.alloc (.cells #[.int .u32 1024] 25)) fun e w' => e = .returned (.bool true) ∧ Below w.heap.size w w' := by
    refine (same_num (h1.alloc _) (num_lit w1 1024 (by decide)) (by decide) (by decide)).mono ?_
    rintro e w' ⟨rfl, q, rfl⟩
    exact ⟨rfl, below_drewN (below_alloc hb1 (Nat.le_refl _) _) q⟩
  have HSM := Lib.hid hsm
  clear h1 hb1 hsm
  go_upto_region 4 with (go_at_call 6; refine HSM.out.mono ?_; rintro e w2 ⟨rfl, hb2⟩)
  have hfw := few_num 20 (HX.out.below (hb2.mono (Nat.le_refl _))) hb (by decide)
  have HFW := Lib.hid hfw
  have HB2 := Lib.hid hb2
  clear hfw hb2 HX HSM HP1
  go_upto_region 5 with (go_at_call 7; refine HFW.out.mono ?_; rintro e w3 ⟨A3, n3, c3, rfl, h3, hb3⟩)
  have hl0 : (xs.take 20).length ≤ 20 := by rw [List.length_take]; omega
  have hX := lv_lt _ h3.sm
  generalize xs.take 20 = X0 at *
  obtain ⟨a, ha⟩ : ∃ a, X0.length = a := ⟨_, rfl⟩
  rw [ha] at hX hl0
  obtain ⟨s1, s2, s3, s4, s5, s6⟩ := sh_bounds (lv X0) k a 13 hX (by omega)
  have hlvX0 : ∃ X, lv X0 = X := ⟨_, rfl⟩
  obtain ⟨X, hXe⟩ := hlvX0
  rw [hXe] at s2 s3 s4 s5 s6
  have HXE := Lib.hid hXe
  have HS6 := Lib.hid s6
  have HA0 := Lib.hid ha
  have HB3 := Lib.hid (HB2.out.trans (hb3.mono HB2.out.size))
  have H3 := Lib.hid h3
  have hpw : Calls Tryd.prog 5 #[.slice (some ⟨w3.heap.size, 0, none⟩) 1 1, .int .i64 (k : Int)] (w3.alloc (.cells #[.int .u32 2] 25)) fun e w' => ∃ A' n' c', e = .returned (.tuple #[.slice A' n' c', .bool true]) ∧ Num w' A' n' c' (limbs (2 ^ k)) ∧ Below w3.heap.size w3 w' := by
    have h := pow_num k (num_lit w3 2 (by decide)) (by decide) (by omega) (by rw [show bl (lv [2]) = 2 by decide]; omega)
    rw [show lv [2] = 2 by decide] at h
    refine h.mono ?_
    rintro e w' ⟨A', n', c', e1, hn, hbw⟩
    exact ⟨A', n', c', e1, hn, ((Below.refl w3.heap.size w3).alloc (Nat.le_refl _) _).trans (hbw.mono (by simp))⟩
  have HPW := Lib.hid hpw
  clear hpw h3 hb3 HFW HB2 hX hXe s6 ha
  go_upto_region 7 with (first | (go_at_call 8; refine (HAM.out _).mono ?_; rintro e w' ⟨rfl, hw⟩; obtain rfl := hw) | (go_at_call 5; refine HPW.out.mono ?_; rintro e w5 ⟨A5, n5, c5, rfl, h5, hb5⟩))
  have hXb : X0.length ≤ 100000000 := by rw [HA0.out]; omega
  have hfx : ∀ W, Num W A3 n3 c3 X0 → Calls Tryd.prog 7 #[.slice A3 n3 c3, .int .i64 20] W fun e w' => ∃ A' n' c', e = .returned (.slice A' n' c') ∧ Num w' A' n' c' X0 ∧ Below W.heap.size W w' := fun W h => by
    have h1 := few_num 20 h (by omega) (by decide)
    rw [List.take_of_length_le (by rw [HA0.out]; exact hl0)] at h1
    exact h1
  have HFX := Lib.hid hfx
  have HB5 := Lib.hid (HB3.out.trans (hb5.mono HB3.out.size))
  have H3 := Lib.hid (H3.out.below hb5)
  have H5 := Lib.hid h5
  have hf5 := HFX.out w5 H3.out
  clear hfx h5 hb5 HB3 HPW
  go_upto_region 8 with (first | (go_at_call 7; refine hf5.mono ?_; clear hf5; rintro e w6 ⟨A6, n6, c6, rfl, h6, b6⟩; have hcall := shl_num k h6 hXb (by omega); rw [HXE.out] at hcall) | (go_at_call 9; refine hcall.mono ?_; clear hcall; rintro e w7 ⟨A7, n7, c7, rfl, h7, b7⟩))
  have H3 := Lib.hid ((H3.out.below b6).below b7)
  have H5 := Lib.hid ((H5.out.below b6).below b7)
  have HB7 := Lib.hid ((HB5.out.trans (b6.mono HB5.out.size)).trans (b7.mono (Nat.le_trans HB5.out.size b6.size)))
  have H7 := Lib.hid h7
  have hf7 := HFX.out w7 H3.out
  clear h6 h7 b6 b7 HB5
  go_upto_region 9 with (first | (go_at_call 7; refine hf7.mono ?_; clear hf7; rintro e w8 ⟨A8, n8, c8, rfl, h8, b8⟩; have hcall := shr_num k h8 hXb (by omega); rw [HXE.out] at hcall) | (go_at_call 10; refine hcall.mono ?_; clear hcall; rintro e w9 ⟨A9, n9, c9, rfl, h9, b9⟩))
  have H3 := Lib.hid ((H3.out.below b8).below b9)
  have H5 := Lib.hid ((H5.out.below b8).below b9)
  have H7 := Lib.hid ((H7.out.below b8).below b9)
  have HB9 := Lib.hid ((HB7.out.trans (b8.mono HB7.out.size)).trans (b9.mono (Nat.le_trans HB7.out.size b8.size)))
  have H9 := Lib.hid h9
  have hf9 := HFX.out w9 H3.out
  clear h8 h9 b8 b9 HB7
  have hs1 : (limbs (2 ^ k)).length ≤ 100000000 := by omega
  have hpos : 0 < lv (limbs (2 ^ k)) := by rw [lv_limbs]; exact Nat.pow_pos (by decide)
  go_upto_region 10 with (first | (go_at_call 7; refine hf9.mono ?_; clear hf9; rintro e w10 ⟨A10, n10, c10, rfl, h10, b10⟩; have hcall := divmod_num h10 (H5.out.below b10) hXb hs1 hpos; rw [HXE.out, lv_limbs] at hcall) | (go_at_call 11; refine hcall.mono ?_; clear hcall; rintro e w11 ⟨A11, n11, c11, A12, n12, c12, rfl, h11, h12, b11⟩))
  have H3 := Lib.hid ((H3.out.below b10).below b11)
  have H5 := Lib.hid ((H5.out.below b10).below b11)
  have H7 := Lib.hid ((H7.out.below b10).below b11)
  have H9 := Lib.hid ((H9.out.below b10).below b11)
  have HB11 := Lib.hid ((HB9.out.trans (b10.mono HB9.out.size)).trans (b11.mono (Nat.le_trans HB9.out.size b10.size)))
  have H11 := Lib.hid h11
  have H12 := Lib.hid h12
  have hf11 := HFX.out w11 H3.out
  clear h10 h11 h12 b10 b11 HB9
  have hs2 : (limbs (X * 2 ^ k)).length ≤ 100000000 := by omega
  have hs3 : (limbs (X / 2 ^ k)).length ≤ 100000000 := by omega
  have hs4 : (limbs (X % 2 ^ k)).length ≤ 100000000 := by omega
  have hs5 : (limbs (X / 2 ^ k * 2 ^ k)).length ≤ 100000000 := by omega
  have hbb : bl (X % 2 ^ k) ≤ k := bl_le (Nat.mod_lt _ (Nat.pow_pos (by decide)))
  obtain ⟨bb, hbe⟩ : ∃ bb, bl (X % 2 ^ k) = bb := ⟨_, rfl⟩
  rw [hbe] at hbb
  have HBE := Lib.hid hbe
  have hgt : ¬ ((bb : Int) > (k : Int)) := by omega
  clear hbe
  go_upto_region 12 with (first | (go_at_call 7; refine hf11.mono ?_; clear hf11; rintro e w14 ⟨A14, n14, c14, rfl, h14, b14⟩; have hcall := mul_num h14 (H5.out.below b14) hXb hs1; rw [HXE.out, lv_limbs] at hcall) | (go_at_call 12; refine hcall.mono ?_; clear hcall; rintro e w15 ⟨A15, n15, c15, rfl, h15, b15⟩; have hsame := same_num ((H7.out.below b14).below b15) h15 hs2 hs2; rw [decide_eq_true rfl] at hsame) | (go_at_call 6; refine hsame.mono ?_; clear hsame; rintro e w16 ⟨rfl, q1, rfl⟩; have hsame2 := same_num (((H9.out.below b14).below b15).drewN q1) (((H11.out.below b14).below b15).drewN q1) hs3 hs3; rw [decide_eq_true rfl] at hsame2) | (go_at_call 6; refine hsame2.mono ?_; clear hsame2; rintro e w17 ⟨rfl, q2, rfl⟩; have hbt := bits_num (((H12.out.below b14).below b15).drewN (q1 + q2)) hs4; rw [lv_limbs, HBE.out] at hbt) | (go_at_call 13; refine hbt.mono ?_; clear hbt; rintro e w18 ⟨rfl, hw⟩; subst hw))
  have H3 := Lib.hid (((H3.out.below b14).below b15).drewN (q1 + q2))
  have H7 := Lib.hid (((H7.out.below b14).below b15).drewN (q1 + q2))
  have H9 := Lib.hid (((H9.out.below b14).below b15).drewN (q1 + q2))
  have H12 := Lib.hid (((H12.out.below b14).below b15).drewN (q1 + q2))
  have HB18 := Lib.hid (below_drewN ((HB11.out.trans (b14.mono HB11.out.size)).trans (b15.mono (Nat.le_trans HB11.out.size b14.size))) (q1 + q2))
  generalize w15.drewN (q1 + q2) = w18 at *
  clear h14 h15 b14 b15 HB11 H5 H11 hgt
  have hsh := shl_num k H9.out hs3 (by omega)
  rw [lv_limbs] at hsh
  go_upto_region 13 with (go_at_call 9; refine hsh.mono ?_; clear hsh; rintro e w19 ⟨A19, n19, c19, rfl, h19, b19⟩)
  have H3 := Lib.hid (H3.out.below b19)
  have H7 := Lib.hid (H7.out.below b19)
  have HB19 := Lib.hid (HB18.out.trans (b19.mono HB18.out.size))
  have hadd := add_num h19 (H12.out.below b19) hs5 hs4
  have hXs : (limbs X).length ≤ 100000000 := by rw [← HXE.out]; exact Nat.le_trans (limbs_length_le X0 H3.out.sm) hXb
  rw [lv_limbs, lv_limbs, show X / 2 ^ k * 2 ^ k + X % 2 ^ k = X by rw [Nat.mul_comm]; exact Nat.div_add_mod X (2 ^ k)] at hadd
  have HADD := Lib.hid hadd
  clear hadd h19 b19 HB18 H9 H12
  go_upto_region 15 with (first | (go_at_call 15; refine HADD.out.mono ?_; rintro e w20 ⟨A20, n20, c20, rfl, h20, b20⟩; have hf20 := HFX.out w20 (H3.out.below b20)) | (go_at_call 7; refine hf20.mono ?_; clear hf20; rintro e w21 ⟨A21, n21, c21, rfl, h21, b21⟩; have hcm := cmp_num (h20.below b21) h21 hXs hXb; rw [HXE.out, lv_limbs, cmp_eq] at hcm) | (go_at_call 14; refine hcm.mono ?_; clear hcm; rintro e w22 ⟨rfl, q3, rfl⟩))
  have H7 := Lib.hid (((H7.out.below b20).below b21).drewN q3)
  have HB23 := Lib.hid (below_drewN ((HB19.out.trans (b20.mono HB19.out.size)).trans (b21.mono (Nat.le_trans HB19.out.size b20.size))) q3)
  generalize w21.drewN q3 = w23 at *
  clear h20 h21 b20 b21 HB19 H3 HADD HFX
  obtain ⟨U, hU⟩ : ∃ U, X * 2 ^ k = U := ⟨_, rfl⟩
  rw [hU] at H7 hs2 HS6 s2
  clear hU
  have hpk := lpack_num H7.out hs2
  rw [lv_limbs] at hpk
  have hbv := bv_byts U
  have hbs := byts_small U
  generalize byts U = bs at *
  go_upto_region 17 with (go_at_call 16; refine hpk.mono ?_; clear hpk; rintro e w24 ⟨A24, nb, c24, rfl, hnb, hc24, hnb4, hr24, b24⟩)
  have H7 := Lib.hid (H7.out.below b24)
  have HB24 := Lib.hid (HB23.out.trans (b24.mono HB23.out.size))
  have HR24 := Lib.hid hr24
  have HNB := Lib.hid hnb
  have HBV := Lib.hid hbv
  have HBS := Lib.hid hbs
  have hnb1 : nb ≤ 1000 := by omega
  obtain ⟨i0, hi, hz0, hz1, hz2⟩ := info_parts info_u64
  obtain ⟨j0, hj, hy0, hy1, hy2⟩ := info_parts info_u8
  clear hr24 b24 hnb hbv hbs HB23 hnb4
  go_wp2_with fail
  go_loopw [17, 127] (fun r i wr => ∃ q : Nat, q ≤ nb ∧ i = .int .i64 (q : Int) ∧ wr.ownsRow w24.heap.size 37 1 r q (words (bs.take q)) ∧ Below w24.heap.size w24 wr) (fun _ i _ => nb - (intOf i).toNat)
  case atStart => exact ⟨0, Nat.zero_le _, rfl, World.ownsRow_nil _ _ _ _, Below.refl _ _⟩
  case round =>
    obtain ⟨q, hq, rfl, hown, hbw⟩ := hrel
    by_cases hlt : q < nb
    · obtain ⟨b1, o1, rfl, x0⟩ := (HR24.out.below hbw).byte q hlt
      have hx8 := small8_getD HBS.out q
      have htk : words (bs.take (q + 1)) = words (bs.take q) ++ [.int .u64 ((bs.getD q 0 : Nat) : Int)] := by
        rw [List.take_succ_eq_append_getElem (by rw [HNB.out]; exact hlt), words_append, List.getD_eq_getElem?_getD, List.getElem?_eq_getElem (by rw [HNB.out]; exact hlt)]
        rfl
      generalize bs.getD q 0 = x at *
      have HTK := Lib.hid htk
      have HO := Lib.hid hown
      have HBW := Lib.hid hbw
      clear htk hown hbw
      go_wp2_with (at_builtin; refine app1 w24.heap.size w24 wr (.int .u64 (x : Int)) 37 rfl _ _ 34 rfl i0 (.int .u64 0) 8 Tryd.underlying34 hi hz0 hz1 hz2 rfl (by decide) _ q _ rfl (Nat.le_refl _) HO.out HBW.out rfl rfl (by omega) ?_)
      intro v6 w6 hown6 hb6 _
      go_wp2_with fail
      go_roundw
      case rel => exact ⟨q + 1, by omega, by go_num, by rw [HTK.out]; exact hown6, hb6⟩
      case measure => simp [intOf]; omega
    · obtain rfl : q = nb := by omega
      rw [List.take_of_length_le (Nat.le_of_eq HNB.out)] at hown
      obtain ⟨A25, c25, rfl, hc25, hr25⟩ := ownsRow_form hown
      have hwf : ∀ u ∈ bs, u < 18446744073709551616 := fun u hu => by have := HBS.out u hu; omega
      have hpk := pack_any bs A25 q c25 wr HNB.out (by omega) hr25 hwf
      have hpl := packs_length bs hwf
      rw [HNB.out] at hpl
      have hup := unpk_packs bs hwf
      have hpb : ∀ x ∈ packs bs, 0 ≤ x ∧ x ≤ 255 := packs_bytes bs
      obtain ⟨np, hnp⟩ : ∃ np, (packs bs).length = np := ⟨_, rfl⟩
      rw [hnp] at hpl hpk
      have H7 := Lib.hid (H7.out.below hbw)
      have HB25 := Lib.hid (HB24.out.trans (hbw.mono HB24.out.size))
      have HPK := Lib.hid hpk
      have HUP := Lib.hid hup
      have HPB := Lib.hid hpb
      have HNP := Lib.hid hnp
      clear hown hr25 hpk hup hpb hbw hnp HB24 HR24
      obtain ⟨w25, rfl⟩ : ∃ x, x = wr := ⟨_, rfl⟩
      go_upto_region 22 with (first | (go_at_call 18; refine HPK.out.mono ?_; rintro e w26 ⟨v26, rfl, ho26, b26⟩; obtain ⟨A26, c26, rfl, hc26, hr26⟩ := ownsRow_form ho26; have hcall := unpack_any (packs bs) A26 np c26 w26 HNP.out hc26 (by omega) hr26 HPB.out; rw [HUP.out, Option.isSome_some, Option.getD_some, HNB.out] at hcall) | (go_at_call 17; refine hcall.mono ?_; clear hcall; rintro e w27 ⟨v27, rfl, ho27, b27⟩))
      obtain ⟨A27, c27, rfl, hc27, hr27⟩ := ownsRow_form ho27
      have hb2527 := b26.trans (b27.mono b26.size)
      have H7 := Lib.hid (H7.out.below hb2527)
      have HB27 := Lib.hid (HB25.out.trans (hb2527.mono HB25.out.size))
      have HR27 := Lib.hid hr27
      clear ho26 hr26 b26 b27 ho27 hr27 hb2527 HB25 HPK HUP HPB HNP hc26 hpl
      obtain ⟨w28, rfl⟩ : ∃ x, x = w27 := ⟨_, rfl⟩
      go_wp2_with fail
      go_loopw [22, 145] (fun r i wr => ∃ p : Nat, p ≤ q ∧ i = .int .i64 (p : Int) ∧ wr.ownsRow w28.heap.size 5 1 r p (by8 (bs.take p)) ∧ Below w28.heap.size w28 wr) (fun _ i _ => q - (intOf i).toNat)
      case atStart => exact ⟨0, Nat.zero_le _, rfl, World.ownsRow_nil _ _ _ _, Below.refl _ _⟩
      case round =>
        obtain ⟨p, hp, rfl, hown, hbw⟩ := hrel
        by_cases hlt2 : p < q
        · obtain ⟨b1, o1, u1, rfl, hu1, x0⟩ := (HR27.out.below hbw).at_ hlt2
          have hpl : p < bs.length := by rw [HNB.out]; exact hlt2
          have hx8 := small8_getD HBS.out p
          have hgl : bs[p] = bs.getD p 0 := by rw [List.getD_eq_getElem?_getD, List.getElem?_eq_getElem hpl]; rfl
          rw [words_get bs p hpl, hgl] at hu1
          injection hu1 with hu1
          subst hu1
          have htk : by8 (bs.take (p + 1)) = by8 (bs.take p) ++ [.int .u8 ((bs.getD p 0 : Nat) : Int)] := by
            rw [List.take_succ_eq_append_getElem hpl, by8_append, hgl]
            rfl
          clear hgl hpl
          generalize bs.getD p 0 = x at *
          have HTK := Lib.hid htk
          have HO := Lib.hid hown
          have HBW := Lib.hid hbw
          clear htk hown hbw
          go_wp2_with (at_builtin; refine app1 w28.heap.size w28 wr (.int .u8 (x : Int)) 5 rfl _ _ 35 rfl j0 (.int .u8 0) 1 Tryd.underlying35 hj hy0 hy1 hy2 rfl (by decide) _ p _ rfl (Nat.le_refl _) HO.out HBW.out rfl rfl (by omega) ?_)
          intro v6 w6 hown6 hb6 _
          go_wp2_with fail
          go_roundw
          case rel => exact ⟨p + 1, by omega, by go_num, by rw [HTK.out]; exact hown6, hb6⟩
          case measure => simp [intOf]; omega
        · obtain rfl : p = q := by omega
          rw [List.take_of_length_le (Nat.le_of_eq HNB.out)] at hown
          obtain ⟨A29, c29, rfl, hc29, hr29⟩ := ownsRow_form hown
          have H7 := Lib.hid (H7.out.below hbw)
          have HB29 := Lib.hid (HB27.out.trans (hbw.mono HB27.out.size))
          have htx := text_num H7.out hs2
          rw [lv_limbs] at htx
          have hpa := fun W => parse_num U W (by have := HS6.out; omega)
          have hun := fun W hW => lunpack_num (w := W) (c := c29) bs (hr29.below hW) HNB.out hc29 HBS.out (by omega)
          rw [HBV.out] at hun
          have HTX := Lib.hid htx
          have HPA := Lib.hid hpa
          have HUN := Lib.hid hun
          clear hown hr29 hbw htx hpa hun HB27 HR27
          obtain ⟨w29, rfl⟩ : ∃ x, x = wr := ⟨_, rfl⟩
          go_upto_region 29 with (first | (go_at_call 20; refine HTX.out.mono ?_; rintro e w30 ⟨rfl, b30⟩; have hcall := HPA.out w30) | (go_at_call 19; refine hcall.mono ?_; clear hcall; rintro e w31 ⟨A31, n31, c31, rfl, h31, b31⟩))
          have hb31 := b30.trans (b31.mono b30.size)
          have H7 := Lib.hid (H7.out.below hb31)
          have HB31 := Lib.hid (HB29.out.trans (hb31.mono HB29.out.size))
          have H31 := Lib.hid h31
          have hcall := HUN.out w31 hb31
          clear h31 b30 b31 hb31 HTX HPA HUN HB29
          go_wp2_with (first | (go_at_call 21; refine hcall.mono ?_; clear hcall; rintro e w32 ⟨A32, n32, c32, rfl, h32, b32⟩; have hsame := same_num h32 (H7.out.below b32) hs2 hs2; rw [decide_eq_true rfl] at hsame) | (go_at_call 6; refine hsame.mono ?_; clear hsame; rintro e w33 ⟨rfl, q4, rfl⟩; have hsame2 := same_num ((H31.out.below b32).drewN q4) ((H7.out.below b32).drewN q4) hs2 hs2; rw [decide_eq_true rfl] at hsame2) | (go_at_call 6; refine hsame2.mono ?_; clear hsame2; rintro e w34 ⟨rfl, q5, rfl⟩))
          go_ret
          refine ⟨?_, ?_⟩
          · rfl
          · exact below_drewN (HB31.out.trans (b32.mono HB31.out.size)) _
end Go.Proofs.YtlbbbafehhdpnaaDoor
