/- Contract of package nat: DivWord. -/
import Derived.Test.YtlbbbafehhdpnaaDoorNatMul
namespace Go.Proofs.YtlbbbafehhdpnaaDoor
open Go.RowKit
set_option linter.unusedVariables false
set_option linter.unusedSimpArgs false

theorem high_or (X U : Nat) (hX : X < 4294967296) (hU : U < 4294967296) : bits .or .u64 ((X : Int) * 4294967296) (U : Int) = ((X * 4294967296 + U : Nat) : Int) := by
  have e : (X : Int) * 4294967296 = ((4294967296 * X : Nat) : Int) := by omega
  rw [e, u64_or_nat _ _ (by omega) (by omega)]
  have h3 := Nat.two_pow_add_eq_or_of_lt (i := 32) (show U < 2 ^ 32 by omega) X
  have e2 : (2 : Nat) ^ 32 = 4294967296 := by decide
  rw [e2] at h3
  rw [← h3, Nat.mul_comm]
set_option maxRecDepth 100000 in
set_option maxHeartbeats 4000000 in
theorem divw_any (xs : List Nat) (A : Option Addr) (n c d : Nat) (w : World) (hl : xs.length = n) (hnc : n ≤ c) (hn : n ≤ 1099511627776) (hr : Rd w 1 A n (lw xs)) (hs : small xs) (hd : 0 < d) (hd2 : d < 4294967296) :
    Calls Tryd.prog 40 #[.slice A n c, .int .u32 (d : Int)] w fun e w' => ∃ v, e = .returned (.tuple #[v, .int .u32 ((lv xs % d : Nat) : Int), .bool true]) ∧ w'.ownsRow w.heap.size 25 1 v (limbs (lv xs / d)).length (lw (limbs (lv xs / d))) ∧ Below w.heap.size w w' := by
  obtain ⟨i0, hi, hz0, hz1, hz2⟩ := info_parts info_u32
  have hd0 : ((d : Int) == 0) = false := by rw [beq_eq_false_iff_ne]; omega
  have HR := Lib.hid hr
  have HS := Lib.hid hs
  clear hr hs
  go_enter Tryd.func40, Tryd.ntmps40
  go_wp2_with (at_make; refine make1 w.heap.size w w rfl _ _ 22 rfl 25 i0 (.int .u32 0) 4 Tryd.underlying22 hi hz0 hz1 hz2 rfl (by decide) .i64 .i64 (n : Int) (n : Int) n rfl rfl (by omega) (by omega) (by omega) _ rfl (Nat.le_refl _) (Below.refl _ _) ?_)
  intro w3 hown3 hb3 _
  have hblk := full_blk hown3
  rw [lw_zeros] at hblk
  have hl0 : LRow w.heap.size w w3 (divSt xs d 0).1 := ⟨by rw [divSt, hl]; exact hblk, hb3⟩
  have HL0 := Lib.hid hl0
  clear hown3 hb3 hblk hl0
  go_wp2_with fail
  go_loopw [8, 9] (fun r x wr => ∃ k : Nat, k ≤ n ∧ x = .int .i64 (((n - k : Nat) : Int) - 1) ∧ r = .int .u64 ((divSt xs d k).2 : Nat) ∧ LRow w.heap.size w wr (divSt xs d k).1) (fun _ x _ => (intOf x + 1).toNat)
  case atStart => exact ⟨0, Nat.zero_le _, by simp, rfl, HL0.out⟩
  case round =>
    obtain ⟨k, hk, rfl, rfl, hst⟩ := hrel
    have hok := div_ok xs d HS.out hd k (by omega)
    by_cases hlt : k < n
    · obtain ⟨i, hi'⟩ : ∃ i, n - k = i + 1 := ⟨n - (k + 1), by omega⟩
      have hi2 : n - (k + 1) = i := by omega
      have em : ((n - k : Nat) : Int) - 1 = i := by rw [hi']; omega
      rw [em]
      have hnx : divSt xs d (k + 1) = ((divSt xs d k).1.set i (((divSt xs d k).2 * 4294967296 + xs.getD i 0) / d), ((divSt xs d k).2 * 4294967296 + xs.getD i 0) % d) := by
        rw [divSt, hl, hi2]
      have hin : i < n := by omega
      obtain ⟨b1, o1, rfl, x0⟩ := (HR.out.below hst.bel).limb i hin hl
      have hxs := getD_lt HS.out i
      obtain ⟨z0, z1⟩ := hst.cell i (by rw [hok.len, hl]; exact hin)
      have hrest := hok.rest
      have hrl := hok.len
      rw [hl] at hrl
      have hor := high_or (divSt xs d k).2 (xs.getD i 0) (by omega) hxs
      have hq := quot_lt (divSt xs d k).2 (xs.getD i 0) d hrest hxs
      generalize xs.getD i 0 = x at *
      generalize (divSt xs d k).1.getD i 0 = z at *
      generalize divSt xs d k = st at *
      obtain ⟨t, r⟩ := st
      simp only at hst z0 z1 hrest hnx hrl hor hq
      have HST := Lib.hid hst
      have HNX := Lib.hid hnx
      have hNb : r * 4294967296 + x < 18446744073709551616 := by omega
      have hmd : (r * 4294967296 + x) % d < d := Nat.mod_lt _ hd
      clear hst hnx em hi'
      generalize hN : r * 4294967296 + x = N at *
      clear hN
      have hin2 : (i : Int) < (n : Int) := by omega
      have hr32 : (r : Int) < 4294967296 := by omega
      have hdi : (0 : Int) < (d : Int) := by omega
      have eq1 : (N : Int) / (d : Int) = ((N / d : Nat) : Int) := rfl
      have eq2 : (N : Int) % (d : Int) = ((N % d : Nat) : Int) := rfl
      have hwr : IntKind.u64.wrap ((N : Int) / (d : Int)) % 4294967296 = ((N / d : Nat) : Int) := by
        rw [eq1]
        generalize N / d = Q at *
        first | (rw [IntKind.wrap_u64]; omega) | (simp [IntKind.wrap]; omega) | (unfold IntKind.wrap; simp; omega)
      have HWR := Lib.hid hwr
      have HE2 := Lib.hid eq2
      clear hwr eq1 eq2
      go_wp2_with fail
      rw [HWR.out, HE2.out]
      go_roundw
      case rel =>
        refine ⟨k + 1, by omega, ?_, by rw [HNX.out], ?_⟩
        · rw [hi2]
        · rw [HNX.out]
          exact HST.out.set (Nat.le_refl _) i (N / d)
      case measure => first | (simp [intOf]; done) | (simp [intOf]; omega)
    · obtain rfl : k = n := by omega
      have hv := div_val xs d HS.out hd
      rw [hl] at hv
      have hrd := hst.rd
      have hsm := hok.sm
      have hln := hok.len
      have hrest := hok.rest
      rw [hl] at hln
      obtain ⟨hv1, hv2⟩ := hv
      have e0 : ((k - k : Nat) : Int) - 1 = -1 := by omega
      rw [e0]
      generalize divSt xs d k = st at *
      obtain ⟨t, r⟩ := st
      simp only at hst hrd hsm hln hrest hv1 hv2 ⊢
      have hnm := norm_any t (some ⟨w.heap.size, 0, none⟩) t.length k wr rfl (by omega) (by omega) hrd hsm
      rw [hv1, hln] at hnm
      have HV2 := Lib.hid hv2
      have HB := Lib.hid hst.bel
      clear hv1 hv2 hrd hsm hst hok e0
      go_wp2_with (go_at_call 39; refine hnm.mono ?_; clear hnm; rintro e w9 ⟨v9, rfl, ho9, hb9⟩)
      go_ret3
      refine ⟨_, ?_, own_more ho9 HB.out.size, HB.out.trans (hb9.mono HB.out.size)⟩
      have hr2 : r < 4294967296 := by omega
      rw [← HV2.out]
      first | rfl | (congr 3; simp; omega)
end Go.Proofs.YtlbbbafehhdpnaaDoor
