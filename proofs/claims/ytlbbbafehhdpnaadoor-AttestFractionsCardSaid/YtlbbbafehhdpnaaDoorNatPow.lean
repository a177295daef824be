/- Contract of package nat: Pow. -/
import Derived.Test.YtlbbbafehhdpnaaDoorLimbD
import Derived.Deep.QuietTactic
import Derived.Deep.RegionHeld3
namespace Go.Proofs.YtlbbbafehhdpnaaDoor
open Go.RowKit
set_option linter.unusedVariables false
set_option linter.unusedSimpArgs false

theorem limbs_len_le {N m : Nat} (h : N < 2 ^ (32 * m)) : (limbs N).length ≤ m := by
  rcases Nat.lt_or_ge m (limbs N).length with h' | h'
  · obtain ⟨k, hk⟩ : ∃ k, (limbs N).length = k + 1 := ⟨(limbs N).length - 1, by omega⟩
    have h1 := limbs_low hk
    have h2 : 2 ^ (32 * m) ≤ 2 ^ (32 * k) := Nat.pow_le_pow_right (by omega) (by omega)
    omega
  · exact h'
theorem pow_fits' (a n e M : Nat) (he : e ≤ n) (h : bl a * n < 32 * M) : (limbs (a ^ e)).length ≤ M := by
  refine limbs_len_le ?_
  have h1 : a ^ e ≤ (2 ^ bl a) ^ e := Nat.pow_le_pow_left (Nat.le_of_lt (bl_lt a)) e
  rw [← Nat.pow_mul] at h1
  have h2 : bl a * e ≤ bl a * n := Nat.mul_le_mul (Nat.le_refl _) he
  exact Nat.lt_of_le_of_lt h1 (Nat.pow_lt_pow_right (by omega) (by omega))
theorem pow_fits (a n e : Nat) (he : e ≤ n) (h : bl a * n ≤ 100000) : (limbs (a ^ e)).length ≤ 3126 := pow_fits' a n e 3126 he (by omega)
theorem below_drewP (w : World) : Below w.heap.size w w.drew := ⟨(Below.refl w.heap.size w).os, (Below.refl w.heap.size w).tape, (Below.refl w.heap.size w).output, (Below.refl w.heap.size w).size, (Below.refl w.heap.size w).block⟩
theorem half_pow (j : Nat) : 2 ^ (j + 1) / 2 = 2 ^ j := by rw [Nat.pow_succ, Nat.mul_div_cancel _ (by omega)]
theorem pow_step (a n j : Nat) : a ^ (n / 2 ^ (j + 1)) * a ^ (n / 2 ^ (j + 1)) * a ^ (n / 2 ^ j % 2) = a ^ (n / 2 ^ j) := by
  rw [← Nat.pow_add, ← Nat.pow_add]
  congr 1
  have : n / 2 ^ (j + 1) = n / 2 ^ j / 2 := by rw [Nat.pow_succ, Nat.div_div_eq_div_mul]
  rw [this]
  omega
theorem and_bit (n j : Nat) (hn : n ≤ 1000) (hj : j ≤ 10) : bits .and .i64 (n : Int) ((2 ^ j : Nat) : Int) = ((n / 2 ^ j % 2 * 2 ^ j : Nat) : Int) := by
  have hp : 2 ^ j ≤ 2 ^ 10 := Nat.pow_le_pow_right (by omega) hj
  have e10 : (2 : Nat) ^ 10 = 1024 := by decide
  have hall : ∀ (n : Fin 1001) (j : Fin 11), n.val &&& 2 ^ j.val = n.val / 2 ^ j.val % 2 * 2 ^ j.val := by decide +kernel
  have hb : n &&& 2 ^ j = n / 2 ^ j % 2 * 2 ^ j := hall ⟨n, by omega⟩ ⟨j, by omega⟩
  clear hall
  have hm : n / 2 ^ j % 2 * 2 ^ j ≤ 1 * 2 ^ j := Nat.mul_le_mul (by omega) (Nat.le_refl _)
  generalize 2 ^ j = K at *
  show IntKind.i64.wrap ((BitVec.ofInt 64 (n : Int) &&& BitVec.ofInt 64 ((K : Nat) : Int)).toNat : Int) = _
  rw [BitVec.ofInt_natCast, BitVec.ofInt_natCast, BitVec.toNat_and, BitVec.toNat_ofNat, BitVec.toNat_ofNat, Nat.mod_eq_of_lt (by omega), Nat.mod_eq_of_lt (by omega), hb, IntKind.wrap_i64]
  omega
set_option maxRecDepth 100000 in
set_option maxHeartbeats 4000000 in
theorem pow_any (xs : List Nat) (A : Option Addr) (n c m : Nat) (w : World) (hl : xs.length = n) (hnc : n ≤ c) (hn : n ≤ 1099511627776) (hr : Rd w 1 A n (lw xs)) (hs : small xs) (hm : m ≤ 1000) (hfit : bl (lv xs) * m ≤ 100000) :
    Calls Tryd.prog 5 #[.slice A n c, .int .i64 (m : Int)] w fun e w' => ∃ v, e = .returned (.tuple #[v, .bool true]) ∧ w'.ownsRow w.heap.size 25 1 v (limbs (lv xs ^ m)).length (lw (limbs (lv xs ^ m))) ∧ Below w.heap.size w w' := by
  have HR := Lib.hid hr
  have HS := Lib.hid hs
  have hq : 0 < m → bl (lv xs) ≤ 100000 / m := fun h => (Nat.le_div_iff_mul_le h).2 hfit
  have hbt := fun W (hW : Below w.heap.size w W) => lbits_any xs A n c W hl hnc hn (hr.below hW) hs
  have hfits := fun e he => pow_fits (lv xs) m e he hfit
  generalize hgb : bl (lv xs) = b at *
  have HBT := Lib.hid hbt
  have HFITS := Lib.hid hfits
  clear hr hs hbt hfits hgb
  go_enter Tryd.func5, Tryd.ntmps5
  go_upto_region 1 with fail
  go_cut [24] (fun x wx => x = .bool false ∧ ∃ q, wx = w.drewN q)
  case first =>
    by_cases h0 : m = 0
    · subst h0
      go_quiet (fail)
      go_wp2_with fail
      go_meet
      exact ⟨rfl, _, rfl⟩
    · have hm0 : (0 : Int) < (m : Int) := by omega
      have hq2 := hq (by omega)
      have hd : ((100000 : Int) / (m : Int)) = ((100000 / m : Nat) : Int) := rfl
      have hq3 : ¬ ((b : Int) > (100000 : Int) / (m : Int)) := by rw [hd]; omega
      have hg1 : ¬ (m : Int) < 0 := by omega
      have hg2 : ¬ (1000 : Int) < (m : Int) := by omega
      have hne : ((m : Int) == 0) = false := by rw [beq_eq_false_iff_ne]; omega
      have htd : IntKind.i64.wrap (Int.tdiv 100000 (m : Int)) = ((100000 / m : Nat) : Int) := by
        have e : Int.tdiv 100000 (m : Int) = ((100000 / m : Nat) : Int) := rfl
        have hle2 := Nat.div_le_self 100000 m
        rw [e, IntKind.wrap_i64]
        generalize 100000 / m = Q at *
        omega
      have HTD := Lib.hid htd
      have HQ2 := Lib.hid hq2
      clear htd
      have hgt : ((m : Int) > 0) := by omega
      have hg3 : (decide ((0 : Int) < (m : Int))) = true := decide_eq_true hm0
      have hpos : 0 < m := by omega
      have hle : m ≤ 1000 := hm
      go_region_held3 (fun W' => True) (trivial) ((go_at_call 13; refine (HBT.out _ (below_drewP w)).mono ?_; rintro e w5 ⟨rfl, hw5⟩))
      all_goals
        go_wp2_with fail
        go_meet
        exact ⟨congrArg Value.bool (decide_eq_false (by rw [HTD.out]; have := HQ2.out; omega)), 1, by first | exact hw5 | rfl⟩
  case rest =>
  obtain ⟨rfl, q0, hwc⟩ := hcut
  have hbw : Below w.heap.size w wc := by rw [hwc]; exact below_drewN (Below.refl _ _) _
  have hwd := word_any 1 wc (by omega)
  have HBW := Lib.hid hbw
  clear hwc hbw
  go_wp2_with (go_at_call 37; refine hwd.mono ?_; clear hwd; rintro e w1 ⟨v1, rfl, ho1, hb1⟩)
  have hb1w : Below w.heap.size w w1 := HBW.out.trans (hb1.mono HBW.out.size)
  have ho1w := own_more ho1 HBW.out.size
  have hstart : lv xs ^ (m / 2 ^ 11) = 1 := by
    rw [Nat.div_eq_of_lt (Nat.lt_of_le_of_lt hm (by decide)), Nat.pow_zero]
  have HO1 := Lib.hid ho1w
  have HB1 := Lib.hid hb1w
  have HST := Lib.hid hstart
  clear ho1 hb1 hb1w ho1w hstart
  go_loopw [6, 7] (fun o x wr => ∃ (j : Nat) (v : Value), j ≤ 11 ∧ x = .int .i64 ((2 ^ j / 2 : Nat) : Int) ∧ v = o ∧ wr.ownsRow w.heap.size 25 1 v (limbs (lv xs ^ (m / 2 ^ j))).length (lw (limbs (lv xs ^ (m / 2 ^ j)))) ∧ Below w.heap.size w wr) (fun _ x _ => (intOf x).toNat)
  case atStart => exact ⟨11, v1, Nat.le_refl _, rfl, rfl, by rw [HST.out]; exact HO1.out, HB1.out⟩
  case round =>
    obtain ⟨j, v, hj, rfl, rfl, hown, hbk⟩ := hrel
    by_cases hj0 : 0 < j
    · obtain ⟨i, rfl⟩ : ∃ i, j = i + 1 := ⟨j - 1, by omega⟩
      rw [half_pow]
      have hstep := pow_step (lv xs) m i
      have hbit := and_bit m i hm (by omega)
      have hlen1 := HFITS.out (m / 2 ^ (i + 1)) (Nat.div_le_self _ _)
      have hkp := Nat.two_pow_pos i
      have hkle : 2 ^ i ≤ 2 ^ 10 := Nat.pow_le_pow_right (by omega) (by omega)
      have hk1024 : 2 ^ i ≤ 1024 := hkle
      clear hkle
      obtain ⟨Av, cv, rfl, hcv, hrv⟩ := ownsRow_form hown
      have hsm := limbs_small (lv xs ^ (m / 2 ^ (i + 1)))
      have hmu := mul_any _ _ Av Av _ cv _ cv wr rfl hcv (by omega) hrv hsm rfl hcv (by omega) hrv hsm
      rw [lv_limbs] at hmu
      have hm2 := Nat.mod_two_eq_zero_or_one (m / 2 ^ i)
      have hfq := HFITS.out (m / 2 ^ i) (Nat.div_le_self _ _)
      have hfp2 : (limbs (lv xs ^ (m / 2 ^ (i + 1)) * lv xs ^ (m / 2 ^ (i + 1)))).length ≤ 6252 := by
        rw [← Nat.pow_add]
        have h2 : m / 2 ^ (i + 1) + m / 2 ^ (i + 1) ≤ m := by
          have e : m / 2 ^ (i + 1) = m / 2 ^ i / 2 := by rw [Nat.pow_succ, Nat.div_div_eq_div_mul]
          have := Nat.div_le_self m (2 ^ i)
          omega
        have := HFITS.out _ h2
        omega
      generalize hP : lv xs ^ (m / 2 ^ (i + 1)) = P at *
      generalize hQ : lv xs ^ (m / 2 ^ i) = Q at *
      generalize hK : 2 ^ i = K at *
      generalize hB : m / K % 2 = bt at *
      have HSTEP := Lib.hid hstep
      have HK := Lib.hid hK
      have HBK := Lib.hid hbk
      have HQ := Lib.hid hQ
      clear hstep hK hB hP hQ hown hbk hrv hsm
      rcases hm2 with rfl | rfl
      · rw [Nat.zero_mul] at hbit
        have hb0 : bits .and .i64 (m : Int) (K : Int) = 0 := hbit
        clear hbit
        go_wp2_with (go_at_call 12; refine hmu.mono ?_; clear hmu; rintro e w2 ⟨v2, rfl, ho2, hb2⟩)
        go_roundw
        case rel =>
          have hs := HSTEP.out
          rw [Nat.pow_zero, Nat.mul_one] at hs
          refine ⟨i, v2, by omega, by first | rfl | go_num | (rw [HK.out]; rfl) | (rw [HK.out]; go_num), rfl, ?_, HBK.out.trans (hb2.mono HBK.out.size)⟩
          rw [hs] at ho2
          rw [HK.out, HQ.out]
          exact own_more ho2 HBK.out.size
        case measure => simp [intOf]; omega
      · rw [Nat.one_mul] at hbit
        have hb0 : bits .and .i64 (m : Int) (K : Int) = (K : Int) := hbit
        have hbne : ((K : Int) != 0) = true := by rw [bne_iff_ne]; omega
        clear hbit
        go_upto_region 9 with (go_at_call 12; refine hmu.mono ?_; clear hmu; rintro e w2 ⟨v2, rfl, ho2, hb2⟩; obtain ⟨A2', c2', rfl, hcv2, hr2'⟩ := ownsRow_form ho2; have hbw2 := HBK.out.trans (hb2.mono HBK.out.size); have hsm2 := limbs_small (P * P); have hmu2 := mul_any _ xs A2' A _ c2' n c w2 rfl hcv2 (by omega) hr2' hsm2 hl hnc hn (HR.out.below hbw2) HS.out; rw [lv_limbs] at hmu2)
        go_wp2_with (go_at_call 12; refine hmu2.mono ?_; clear hmu2; rintro e w3 ⟨v3, rfl, ho3, hb3⟩)
        go_roundw
        case rel =>
          have hs := HSTEP.out
          rw [Nat.pow_one] at hs
          refine ⟨i, v3, by omega, by first | rfl | go_num | (rw [HK.out]; rfl) | (rw [HK.out]; go_num), rfl, ?_, hbw2.trans (hb3.mono hbw2.size)⟩
          rw [hs] at ho3
          rw [HK.out, HQ.out]
          exact own_more ho3 hbw2.size
        case measure => simp [intOf]; omega
    · obtain rfl : j = 0 := by omega
      have e0 : ((2 ^ 0 / 2 : Nat) : Int) = 0 := rfl
      rw [e0]
      rw [Nat.pow_zero, Nat.div_one] at hown
      have HOW := Lib.hid hown
      clear hown e0
      go_wp2_with fail
      go_ret2
      exact ⟨_, rfl, HOW.out, hbk⟩
end Go.Proofs.YtlbbbafehhdpnaaDoor
