/- Contract of package limb: Sub. -/
import Derived.Test.YtlbbbafehhdpnaaGreatDoorNumOps
namespace Go.Proofs.YtlbbbafehhdpnaaGreatDoor
open Go.RowKit
set_option linter.unusedVariables false
set_option linter.unusedSimpArgs false

/-- the row of the difference behind i limbs, and what is owed. -/
def subL (x y o : Nat) : Nat := (x + 8589934592 - o - y) % 4294967296
def subO (x y o : Nat) : Nat := if x < o + y then 1 else 0
def subP (xs ys : List Nat) : Nat → List Nat × Nat
  | 0 => ([], 0)
  | i + 1 => ((subP xs ys i).1 ++ [subL (xs.getD i 0) (ys.getD i 0) (subP xs ys i).2], subO (xs.getD i 0) (ys.getD i 0) (subP xs ys i).2)
structure SubOk (xs ys : List Nat) (i : Nat) : Prop where
  len : (subP xs ys i).1.length = i
  sm : small (subP xs ys i).1
  owed : (subP xs ys i).2 ≤ 1
  val : lv (subP xs ys i).1 + lv (ys.take i) = lv (xs.take i) + 2 ^ (32 * i) * (subP xs ys i).2
theorem lv_takeE (l : List Nat) (k : Nat) : lv (l.take (k + 1)) = lv (l.take k) + 2 ^ (32 * k) * l.getD k 0 := by
  rcases Nat.lt_or_ge k l.length with h | h
  · exact lv_takeD l k h
  · rw [List.take_of_length_le (by omega), List.take_of_length_le h, List.getD_eq_getElem?_getD, List.getElem?_eq_none h]
    simp
theorem sub_limb (x y o : Nat) (hx : x < 4294967296) (hy : y < 4294967296) (ho : o ≤ 1) : subL x y o + (o + y) = x + 4294967296 * subO x y o := by
  unfold subL subO
  split <;> omega
theorem subL_lt (x y o : Nat) : subL x y o < 4294967296 := Nat.mod_lt _ (by decide)
theorem subO_le (x y o : Nat) : subO x y o ≤ 1 := by unfold subO; split <;> omega
theorem subP_succ (xs ys : List Nat) (i : Nat) : subP xs ys (i + 1) = ((subP xs ys i).1 ++ [subL (xs.getD i 0) (ys.getD i 0) (subP xs ys i).2], subO (xs.getD i 0) (ys.getD i 0) (subP xs ys i).2) := rfl
theorem sub_aux (P R o y x o' S X Y : Nat) (hv : S + Y = X + P * o) (hl : R + (o + y) = x + 4294967296 * o') : S + P * R + (Y + P * y) = X + P * x + P * 4294967296 * o' := by
  have e : P * (R + (o + y)) = P * (x + 4294967296 * o') := by rw [hl]
  rw [Nat.mul_add, Nat.mul_add, Nat.mul_add, ← Nat.mul_assoc] at e
  omega
theorem lv_one (a : Nat) : lv [a] = a := by simp [lv]
theorem sub_ok (xs ys : List Nat) (hx : small xs) (hy : small ys) (i : Nat) : SubOk xs ys i := by
  induction i with
  | zero => exact ⟨rfl, small_nil, Nat.zero_le _, by simp [subP, lv]⟩
  | succ i h =>
    have hl := sub_limb (xs.getD i 0) (ys.getD i 0) (subP xs ys i).2 (getD_lt hx i) (getD_lt hy i) h.owed
    have ha := sub_aux (2 ^ (32 * i)) _ _ _ _ _ _ _ _ h.val hl
    refine ⟨by rw [subP_succ, List.length_append, h.len]; rfl, ?_, by rw [subP_succ]; exact subO_le _ _ _, ?_⟩
    · rw [subP_succ]
      exact small_append.2 ⟨h.sm, by intro x hx; rw [List.mem_singleton] at hx; rw [hx]; exact subL_lt _ _ _⟩
    · rw [subP_succ, lv_append, h.len, lv_takeE ys i, lv_takeE xs i, pow_succ32, lv_one]
      exact ha
theorem sub_end (xs ys : List Nat) (hx : small xs) (hy : small ys) (h : lv ys ≤ lv xs) : lv (subP xs ys xs.length).1 = lv xs - lv ys := by
  have ho := sub_ok xs ys hx hy xs.length
  have hv := ho.val
  have hl := lv_lt _ ho.sm
  have hxl := lv_lt xs hx
  rw [ho.len] at hl
  rw [List.take_of_length_le (Nat.le_refl xs.length)] at hv
  have e : lv ys = lv (ys.take xs.length) := by
    have h1 := congrArg lv (List.take_append_drop xs.length ys)
    rw [lv_append] at h1
    rcases Nat.lt_or_ge xs.length ys.length with hlt | hge
    · rw [List.length_take, Nat.min_eq_left (by omega)] at h1
      rcases Nat.eq_zero_or_pos (lv (ys.drop xs.length)) with h0 | h0
      · rw [h0, Nat.mul_zero, Nat.add_zero] at h1; exact h1.symm
      · have : 2 ^ (32 * xs.length) * 1 ≤ 2 ^ (32 * xs.length) * lv (ys.drop xs.length) := Nat.mul_le_mul_left _ h0
        omega
    · rw [List.take_of_length_le hge]
  rw [← e] at hv
  have hw := ho.owed
  rcases (show (subP xs ys xs.length).2 = 0 ∨ (subP xs ys xs.length).2 = 1 by omega) with h0 | h0
  · rw [h0] at hv; omega
  · rw [h0] at hv; omega
theorem sub_row (P : List Nat) (m i y : Nat) (hP : P.length = i) (hi : i < m) : (P ++ List.replicate (m - i) 0).set i y = (P ++ [y]) ++ List.replicate (m - (i + 1)) 0 := by
  obtain ⟨k, hk⟩ : ∃ k, m - i = k + 1 := ⟨m - (i + 1), by omega⟩
  rw [hk, show m - (i + 1) = k by omega, List.set_append_right _ _ (by omega), hP, Nat.sub_self, List.replicate_succ, List.set_cons_zero, List.append_assoc]
  rfl
/-- one limb as the code reckons it. -/
theorem sub_code (x y o : Nat) (hx : x < 4294967296) (hy : y < 4294967296) (ho : o ≤ 1) : ((subL x y o : Nat) : Int) = ((x : Int) - (o : Int) - (y : Int)) % 4294967296 := by unfold subL; omega

theorem cmp_nonneg {a b : Nat} (h : b ≤ a) : ¬ (cmpN a b < 0) := by
  rcases Nat.eq_or_lt_of_le h with rfl | hlt
  · rw [cmp_eq]; decide
  · rw [cmp_gt hlt]; decide
set_option maxRecDepth 100000 in
theorem sub_no {w : World} {A A2 : Option Addr} {n c n2 c2 : Nat} {l m : List Nat} (h : Num w A n c l) (h2 : Num w A2 n2 c2 m) (hb : l.length ≤ 100000000) (hb2 : m.length ≤ 100000000) (hlt : lv l < lv m) :
    Calls Tryz.prog 59 #[.slice A n c, .slice A2 n2 c2] w fun e w' => e = .returned (.tuple #[.slice none 0 0, .bool false]) ∧ ∃ q, w' = w.drewN q := by
  have hc := cmp_num h h2 hb hb2
  rw [cmp_lt hlt] at hc
  clear h h2 hlt
  go_enter Tryz.func59, Tryz.ntmps59
  go_wp2_with (go_at_call 55; refine hc.mono ?_; clear hc; rintro e w1 ⟨rfl, q, rfl⟩)
  go_ret2
  exact ⟨rfl, _, rfl⟩

set_option maxRecDepth 100000 in
set_option maxHeartbeats 4000000 in
theorem sub_yes {w : World} {A A2 : Option Addr} {n c n2 c2 : Nat} {l m : List Nat} (h : Num w A n c l) (h2 : Num w A2 n2 c2 m) (hb : l.length ≤ 100000000) (hb2 : m.length ≤ 100000000) (hle : lv m ≤ lv l) :
    Calls Tryz.prog 59 #[.slice A n c, .slice A2 n2 c2] w fun e w' => ∃ A' n' c', e = .returned (.tuple #[.slice A' n' c', .bool true]) ∧ Num w' A' n' c' (limbs (lv l - lv m)) ∧ Below w.heap.size w w' := by
  obtain ⟨i0, hi, hz0, hz1, hz2⟩ := info_parts info_u32
  have hc := cmp_num h h2 hb hb2
  have hcv := cmp_nonneg hle
  obtain ⟨cv, hce⟩ : ∃ cv, cmpN (lv l) (lv m) = cv := ⟨_, rfl⟩
  rw [hce] at hc hcv
  have hend := sub_end l m h.sm h2.sm hle
  have hok := sub_ok l m h.sm h2.sm
  have hln := h.len
  have hmn := h2.len
  rw [hln] at hend
  have hnb : n ≤ 100000000 := by omega
  have hmb : n2 ≤ 100000000 := by omega
  have HEND := Lib.hid hend
  have HOK := Lib.hid hok
  have HLN := Lib.hid hln
  have HMN := Lib.hid hmn
  have H1 := Lib.hid h
  have H2 := Lib.hid h2
  clear hce hend hok hle h h2 hln hmn hb hb2
  go_enter Tryz.func59, Tryz.ntmps59
  go_upto_region 3 with (go_at_call 55; refine hc.mono ?_; clear hc; rintro e w1 ⟨rfl, q, rfl⟩)
  obtain ⟨w1, hw1⟩ : ∃ x, x = w.drewN q := ⟨_, rfl⟩
  rw [← hw1]
  have H1 := Lib.hid (show Num w1 A n c l by rw [hw1]; exact H1.out.drewN q)
  have H2 := Lib.hid (show Num w1 A2 n2 c2 m by rw [hw1]; exact H2.out.drewN q)
  have HB1 := Lib.hid (show Below w.heap.size w w1 by rw [hw1]; exact below_drewN (Below.refl _ _) q)
  clear hw1
  go_wp2_with (at_make; refine make1 w1.heap.size w1 w1 rfl _ _ 31 rfl 92 i0 (.int .u32 0) 4 Tryz.underlying31 hi hz0 hz1 hz2 rfl (by decide) .i64 .i64 (n : Int) (n : Int) n rfl rfl (by omega) (by omega) (by omega) _ rfl (Nat.le_refl _) (Below.refl _ _) ?_)
  intro w3 hown3 hb3 _
  have hblk := full_blk hown3
  rw [lw_zeros] at hblk
  have hl0 : LRow w1.heap.size w1 w3 ((subP l m 0).1 ++ List.replicate (n - 0) 0) := ⟨hblk, hb3⟩
  have HL0 := Lib.hid hl0
  clear hown3 hb3 hblk hl0
  go_wp2_with fail
  go_loopw [7, 20] (fun o i wr => ∃ q : Nat, q ≤ n ∧ i = .int .i64 (q : Int) ∧ o = .int .i64 ((subP l m q).2 : Nat) ∧ LRow w1.heap.size w1 wr ((subP l m q).1 ++ List.replicate (n - q) 0)) (fun _ i _ => n - (intOf i).toNat)
  case atStart => exact ⟨0, Nat.zero_le _, rfl, rfl, HL0.out⟩
  case round =>
    obtain ⟨q, hq, rfl, rfl, hst⟩ := hrel
    have hgo := HOK.out q
    have hgl := hgo.len
    have hsm := hgo.sm
    by_cases hlt : q < n
    · obtain ⟨b1, o1, rfl, x0⟩ := (H1.out.rd.below hst.bel).limb q hlt HLN.out
      have hx32 := getD_lt H1.out.sm q
      have hy32 := getD_lt H2.out.sm q
      have ho1 := hgo.owed
      have hrl : ((subP l m q).1 ++ List.replicate (n - q) 0).length = n := by rw [List.length_append, List.length_replicate, hgl]; omega
      obtain ⟨z0, z1⟩ := hst.cell q (by rw [hrl]; exact hlt)
      have hnx : subP l m (q + 1) = ((subP l m q).1 ++ [subL (l.getD q 0) (m.getD q 0) (subP l m q).2], subO (l.getD q 0) (m.getD q 0) (subP l m q).2) := rfl
      have hyc : q < n2 → ∃ b off, A2 = some ⟨b, off, none⟩ ∧ wr.cell? ⟨b, off + q, none⟩ = some (.int .u32 ((m.getD q 0 : Nat) : Int)) := fun hq2 => (H2.out.rd.below hst.bel).limb q hq2 HMN.out
      have hy0 : n2 ≤ q → m.getD q 0 = 0 := fun hq2 => by rw [List.getD_eq_getElem?_getD, List.getElem?_eq_none (by rw [HMN.out]; exact hq2)]; rfl
      obtain ⟨z, hz⟩ : ∃ z, ((subP l m q).1 ++ List.replicate (n - q) 0).getD q 0 = z := ⟨_, rfl⟩
      rw [hz] at z0
      generalize l.getD q 0 = x at *
      generalize m.getD q 0 = y at *
      generalize subP l m q = st at *
      obtain ⟨t, o⟩ := st
      simp only at hst hgl ho1 hnx
      have HST := Lib.hid hst
      clear hst hgo hrl hsm hz
      by_cases hq2 : q < n2
      · obtain ⟨b2, o2, rfl, y0⟩ := hyc hq2
        have HNX := Lib.hid hnx
        clear hyc hy0 hnx
        have hst := HST.out.set (Nat.le_refl _) q (subL x y o)
        rw [sub_row _ n q _ hgl hlt] at hst
        by_cases hneg : x < o + y
        · have hdn : (x : Int) - (o : Int) - (y : Int) < 0 := by omega
          rw [show ((subL x y o : Nat) : Int) = ((x : Int) - (o : Int) - (y : Int)) % 4294967296 by unfold subL; omega] at hst
          have HST2 := Lib.hid hst
          clear hst
          go_wp2_with fail
          go_roundw
          case rel => exact ⟨q + 1, by omega, by go_num, by rw [HNX.out]; simp only [subO, if_pos hneg]; rfl, by rw [HNX.out]; exact HST2.out⟩
          case measure => simp [intOf]; omega
        · have hdn : ¬ ((x : Int) - (o : Int) - (y : Int) < 0) := by omega
          rw [show ((subL x y o : Nat) : Int) = (x : Int) - (o : Int) - (y : Int) by unfold subL; omega] at hst
          have HST2 := Lib.hid hst
          clear hst
          go_wp2_with fail
          go_roundw
          case rel => exact ⟨q + 1, by omega, by go_num, by rw [HNX.out]; simp only [subO, if_neg hneg]; rfl, by rw [HNX.out]; exact HST2.out⟩
          case measure => simp [intOf]; omega
      · obtain rfl := hy0 (by omega)
        have HNX := Lib.hid hnx
        clear hyc hy0 hnx
        have zlt : 0 < 4294967296 := by decide
        have hst := HST.out.set (Nat.le_refl _) q (subL x 0 o)
        rw [sub_row _ n q _ hgl hlt] at hst
        by_cases hneg : x < o + 0
        · have hdn : (x : Int) - (o : Int) < 0 := by omega
          rw [show ((subL x 0 o : Nat) : Int) = ((x : Int) - (o : Int)) % 4294967296 by unfold subL; omega] at hst
          have HST2 := Lib.hid hst
          clear hst
          go_wp2_with fail
          go_roundw
          case rel => exact ⟨q + 1, by omega, by go_num, by rw [HNX.out]; simp only [subO, if_pos hneg]; rfl, by rw [HNX.out]; exact HST2.out⟩
          case measure => simp [intOf]; omega
        · have hdn : ¬ ((x : Int) - (o : Int) < 0) := by omega
          rw [show ((subL x 0 o : Nat) : Int) = (x : Int) - (o : Int) by unfold subL; omega] at hst
          have HST2 := Lib.hid hst
          clear hst
          go_wp2_with fail
          go_roundw
          case rel => exact ⟨q + 1, by omega, by go_num, by rw [HNX.out]; simp only [subO, if_neg hneg]; rfl, by rw [HNX.out]; exact HST2.out⟩
          case measure => simp [intOf]; omega
    · obtain rfl : q = n := by omega
      rw [Nat.sub_self, List.replicate_zero, List.append_nil] at hst
      have hrd := hst.rd
      rw [hgl] at hrd
      have hnm := norm_any _ (some ⟨w1.heap.size, 0, none⟩) q q wr hgl (Nat.le_refl _) (by omega) hrd hsm
      rw [HEND.out] at hnm
      have HNM := Lib.hid hnm
      have HBW := Lib.hid (HB1.out.trans (hst.bel.mono HB1.out.size))
      clear hrd hnm hst hgo hsm hgl
      go_wp2_with (go_at_call 35; refine HNM.out.mono ?_; rintro e w9 ⟨v9, rfl, ho9, hb9⟩; obtain ⟨A9, c9, rfl, h9⟩ := Num.of (N := 0) ho9 (limbs_small _))
      go_ret2
      exact ⟨_, _, _, rfl, h9, HBW.out.trans (hb9.mono HBW.out.size)⟩
end Go.Proofs.YtlbbbafehhdpnaaGreatDoor
