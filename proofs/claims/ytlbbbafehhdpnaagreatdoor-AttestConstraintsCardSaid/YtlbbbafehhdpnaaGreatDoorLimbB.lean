/- Contracts of package limb: Shl, Shr. -/
import Derived.Test.YtlbbbafehhdpnaaGreatDoorLimbMath
namespace Go.Proofs.YtlbbbafehhdpnaaGreatDoor
set_option linter.unusedVariables false
set_option linter.unusedSimpArgs false
open Go.RowKit

theorem or_shift (C X s : Nat) (hC : C < 2 ^ s) (hX : X < 4294967296) (hs : s < 32) :
    bits .or .u64 (C : Int) (IntKind.u64.wrap ((X : Int) * 2 ^ s)) = ((C + X * 2 ^ s : Nat) : Int) ∧ C + X * 2 ^ s < 4294967296 * 2 ^ s ∧ C + X * 2 ^ s ≤ 18446744073709551615 := by
  have h1 : X * 2 ^ s + 2 ^ s ≤ 4294967296 * 2 ^ s := by
    have := Nat.mul_le_mul_right (2 ^ s) (show X + 1 ≤ 4294967296 by omega)
    rw [Nat.add_mul] at this; omega
  have h2 : 2 ^ s ≤ 2147483648 := Nat.le_trans (Nat.pow_le_pow_right (by omega) (show s ≤ 31 by omega)) (by decide)
  have h3 : 4294967296 * 2 ^ s ≤ 4294967296 * 2147483648 := Nat.mul_le_mul_left _ h2
  refine ⟨?_, by omega, by omega⟩
  have e : (X : Int) * 2 ^ s = ((X * 2 ^ s : Nat) : Int) := by rw [Int.natCast_mul]; simp
  rw [e, IntKind.wrap_u64]
  have e2 : ((X * 2 ^ s : Nat) : Int) % 18446744073709551616 = ((X * 2 ^ s : Nat) : Int) := by generalize X * 2 ^ s = z at *; omega
  rw [e2, u64_or_nat _ _ (by omega) (by omega)]
  congr 1
  have h4 := Nat.two_pow_add_eq_or_of_lt hC X
  rw [Nat.or_comm, Nat.mul_comm, ← h4, Nat.add_comm]

set_option maxRecDepth 100000 in
theorem shl_no (xs : Value) (K : Int) (w : World) (h : ¬ (0 ≤ K ∧ K ≤ 100000)) :
    Calls Tryz.prog 83 #[xs, .int .i64 K] w fun e w' => e = .returned (.tuple #[.slice none 0 0, .bool false]) ∧ w = w' := by
  have hs := shiftOK_any K w
  have hd : decide (0 ≤ K ∧ K ≤ 100000) = false := by simpa using h
  rw [hd] at hs
  have HS := Lib.hid hs
  clear hs hd h
  go_enter Tryz.func83, Tryz.ntmps83
  go_wp2_with fail
  refine HS.out.mono ?_
  rintro e w' ⟨rfl, rfl⟩
  go_wp2_with fail
  go_ret2
  exact ⟨rfl, rfl⟩
set_option maxRecDepth 100000 in
theorem shr_no (xs : Value) (K : Int) (w : World) (h : ¬ (0 ≤ K ∧ K ≤ 100000)) :
    Calls Tryz.prog 86 #[xs, .int .i64 K] w fun e w' => e = .returned (.tuple #[.slice none 0 0, .bool false]) ∧ w = w' := by
  have hs := shiftOK_any K w
  have hd : decide (0 ≤ K ∧ K ≤ 100000) = false := by simpa using h
  rw [hd] at hs
  have HS := Lib.hid hs
  clear hs hd h
  go_enter Tryz.func86, Tryz.ntmps86
  go_wp2_with fail
  refine HS.out.mono ?_
  rintro e w' ⟨rfl, rfl⟩
  go_wp2_with fail
  go_ret2
  exact ⟨rfl, rfl⟩

set_option maxHeartbeats 800000 in
set_option maxRecDepth 100000 in
theorem shl_yes (xs : List Nat) (A : Option Addr) (n c K : Nat) (w : World) (hl : xs.length = n) (hn : n ≤ 17592186044416) (hr : Rd w 1 A n (lw xs)) (hs : small xs) (hK : K ≤ 100000) :
    Calls Tryz.prog 83 #[.slice A n c, .int .i64 K] w fun e w' => ∃ v, e = .returned (.tuple #[v, .bool true]) ∧
      w'.ownsRow w.heap.size 92 1 v (limbs (lv xs * 2 ^ K)).length (lw (limbs (lv xs * 2 ^ K))) ∧ Below w.heap.size w w' := by
  obtain ⟨i0, hi, hz0, hz1, hz2⟩ := info_parts info_u32
  have hok := shiftOK_any K w
  have hd : decide ((0 : Int) ≤ K ∧ (K : Int) ≤ 100000) = true := by simp; omega
  rw [hd] at hok
  have HOK := Lib.hid hok
  clear hok hd
  have HR := Lib.hid hr
  have HS := Lib.hid hs
  clear hr hs
  have hq : K = 32 * (K / 32) + K % 32 := (Nat.div_add_mod K 32).symm
  have hs32 : K % 32 < 32 := Nat.mod_lt _ (by decide)
  have hpow : 2 ^ K = 2 ^ (32 * (K / 32)) * 2 ^ (K % 32) := by rw [← Nat.pow_add, ← hq]
  rw [hpow]
  have hqb : K / 32 ≤ 3125 := by omega
  have hdq : (K : Int) / 32 = ((K / 32 : Nat) : Int) := by omega
  have hmq : (K : Int) % 32 = ((K % 32 : Nat) : Int) := by omega
  clear hq hpow
  generalize K / 32 = q at *
  generalize K % 32 = s at *
  go_enter Tryz.func83, Tryz.ntmps83
  go_wp2_with fail
  refine HOK.out.mono ?_
  rintro e w' ⟨rfl, rfl⟩
  go_wp2_with (at_make; refine make2 w.heap.size w w rfl _ _ 31 rfl 92 i0 (.int .u32 0) 4 Tryz.underlying31 hi hz0 hz1 hz2 rfl (by decide) .i64 .i64 _ _ q (q + n + 1) rfl rfl (by first | rfl | omega) (by omega) (by omega) (by omega) (lw (List.replicate q 0)) (by simp [lw]) (Nat.le_refl _) (Below.refl _ _) ?_)
  intro w1 hown1 hb1 hg1
  go_wp2_with fail
  go_loopw [6, 7, 24] (fun o cy i wr => ∃ (k C : Nat) (ys : List Nat), k ≤ n ∧ i = .int .i64 k ∧ cy = .int .u64 C ∧ C < 2 ^ s ∧ ys.length = q + k ∧ small ys ∧ lv ys + 2 ^ (32 * (q + k)) * C = lv (xs.take k) * (2 ^ (32 * q) * 2 ^ s) ∧ wr.ownsRow w.heap.size 92 1 o (q + k) (lw ys) ∧ Below w.heap.size w wr) (fun _ _ i _ => n - (intOf i).toNat)
  case atStart => exact ⟨0, 0, List.replicate q 0, Nat.zero_le _, rfl, rfl, Nat.pow_pos (by omega), by simp, small_zeros q, by simp [lv, lv_zeros], hown1, hb1⟩
  case round =>
    clear hown1 hb1 hg1
    obtain ⟨k, C, ys, hk, rfl, rfl, hC, hyl, hys, heq, hown, hb⟩ := hrel
    by_cases hlt : k < n
    · obtain ⟨b1, o1, u1, rfl, hu1, hc1⟩ := (HR.out.below hb).at_ hlt
      have hjl : k < xs.length := by omega
      rw [lw_get xs k hjl] at hu1
      injection hu1 with hu1
      have hx := HS.out xs[k] (List.getElem_mem _)
      have HT := Lib.hid (lv_take_succ xs k hjl)
      generalize xs[k] = X at *
      subst hu1
      clear hjl
      obtain ⟨ho1, ho2, ho3⟩ := or_shift C X s hC hx hs32
      have HEQ := Lib.hid heq
      have HC := Lib.hid hC
      have HYL := Lib.hid hyl
      have HY := Lib.hid hys
      have HO2 := Lib.hid ho2
      generalize hD : C + X * 2 ^ s = D at *
      have HD := Lib.hid hD
      clear heq hC hyl hys ho2 hD
      go_wp2_with (at_builtin; refine app1 w.heap.size w wr _ 92 rfl _ _ 31 rfl i0 (.int .u32 0) 4 Tryz.underlying31 hi hz0 hz1 hz2 rfl (by decide) _ (q + k) _ rfl (Nat.le_refl _) hown hb rfl rfl (by omega) ?_)
      intro v1 w2 hown2 hb2 _
      clear hown hb
      go_wp2_with fail
      go_roundw
      case rel =>
        refine ⟨k + 1, D / 4294967296, ys ++ [D % 4294967296], by omega, by go_num, by go_num, ?_, by rw [List.length_append, HYL.out]; rfl, small_append.2 ⟨HY.out, by intro x hx; simp at hx; omega⟩, ?_, ?_, hb2⟩
        · rw [Nat.div_lt_iff_lt_mul (by decide), Nat.mul_comm]; exact HO2.out
        · rw [lv_append, HYL.out, HT.out, Nat.add_mul, ← HEQ.out]
          simp only [lv, Nat.mul_zero, Nat.add_zero]
          have e1 : 2 ^ (32 * (q + (k + 1))) = 2 ^ (32 * (q + k)) * 4294967296 := by
            rw [show 32 * (q + (k + 1)) = 32 * (q + k) + 32 by omega, Nat.pow_add]
          have e2 : 2 ^ (32 * k) * X * (2 ^ (32 * q) * 2 ^ s) = 2 ^ (32 * (q + k)) * (X * 2 ^ s) := by
            rw [Nat.mul_add 32, Nat.pow_add]
            simp only [Nat.mul_assoc, Nat.mul_comm, Nat.mul_left_comm]
          rw [e1, e2, Nat.add_assoc, Nat.add_assoc, ← Nat.mul_add, HD.out, Nat.mul_assoc, ← Nat.mul_add, Nat.mod_add_div]
        · rw [lw_append]
          exact hown2
      case measure => simp [intOf]; omega
    · obtain rfl : k = n := by omega
      have hC32 : C < 4294967296 := Nat.lt_of_lt_of_le hC (Nat.le_trans (Nat.pow_le_pow_right (by omega) (show s ≤ 32 by omega)) (by decide))
      rw [List.take_of_length_le (by omega)] at heq
      have hval : lv (ys ++ [C]) = lv xs * (2 ^ (32 * q) * 2 ^ s) := by
        rw [lv_append, hyl, ← heq]
        simp [lv]
      have hsm : small (ys ++ [C]) := small_append.2 ⟨hys, by intro x hx; simp at hx; omega⟩
      have hlen2 : (ys ++ [C]).length = q + k + 1 := by simp [hyl]
      have HV := Lib.hid hval
      have HSM := Lib.hid hsm
      have HL := Lib.hid hlen2
      clear hval hsm hlen2 heq hC hyl hys
      go_wp2_with (at_builtin; refine app1 w.heap.size w wr _ 92 rfl _ _ 31 rfl i0 (.int .u32 0) 4 Tryz.underlying31 hi hz0 hz1 hz2 rfl (by decide) _ (q + k) _ rfl (Nat.le_refl _) hown hb rfl rfl (by omega) ?_)
      intro v1 w2 hown2 hb2 _
      obtain ⟨A2, c2, rfl, hc2, hr2⟩ := ownsRow_form hown2
      have hr3 : Rd w2 1 A2 (q + k + 1) (lw (ys ++ [C])) := by rw [lw_append]; exact hr2
      have hn := norm_any (ys ++ [C]) A2 (q + k + 1) c2 w2 HL.out hc2 (by omega) hr3 HSM.out
      rw [HV.out] at hn
      have HN := Lib.hid hn
      clear hn hr2 hr3 hown hown2 hb HV HSM HL
      go_wp2_with fail
      refine HN.out.mono ?_
      rintro e w3 ⟨v3, rfl, hown3, hb3⟩
      go_wp2_with fail
      go_ret2
      exact ⟨_, rfl, own_more hown3 hb2.size, hb2.trans (hb3.mono hb2.size)⟩

set_option maxHeartbeats 1000000 in
set_option maxRecDepth 100000 in
theorem shr_yes (xs : List Nat) (A : Option Addr) (n c K : Nat) (w : World) (hl : xs.length = n) (hnc : n ≤ c) (hn : n ≤ 17592186044416) (hr : Rd w 1 A n (lw xs)) (hs : small xs) (hK : K ≤ 100000) :
    Calls Tryz.prog 86 #[.slice A n c, .int .i64 K] w fun e w' => ∃ v, e = .returned (.tuple #[v, .bool true]) ∧
      w'.ownsRow w.heap.size 92 1 v (limbs (lv xs / 2 ^ K)).length (lw (limbs (lv xs / 2 ^ K))) ∧ Below w.heap.size w w' := by
  obtain ⟨i0, hi, hz0, hz1, hz2⟩ := info_parts info_u32
  have hok := shiftOK_any K w
  have hd : decide ((0 : Int) ≤ K ∧ (K : Int) ≤ 100000) = true := by simp; omega
  rw [hd] at hok
  have HOK := Lib.hid hok
  clear hok hd
  have hq : K = 32 * (K / 32) + K % 32 := (Nat.div_add_mod K 32).symm
  have hs32 : K % 32 < 32 := Nat.mod_lt _ (by decide)
  have hpow : 2 ^ K = 2 ^ (32 * (K / 32)) * 2 ^ (K % 32) := by rw [← Nat.pow_add, ← hq]
  have hqb : K / 32 ≤ 3125 := by omega
  have hdq : (K : Int) / 32 = ((K / 32 : Nat) : Int) := by omega
  have hmq : (K : Int) % 32 = ((K % 32 : Nat) : Int) := by omega
  clear hq
  generalize K / 32 = q at *
  generalize K % 32 = s at *
  by_cases hqn : n ≤ q
  · have hz : lv xs / 2 ^ K = 0 := by
      refine Nat.div_eq_of_lt (Nat.lt_of_lt_of_le (lv_lt xs hs) ?_)
      rw [hpow]
      exact Nat.le_trans (Nat.pow_le_pow_right (by omega) (by omega)) (Nat.le_mul_of_pos_right _ (Nat.pow_pos (by omega)))
    rw [hz, limbs_zero]
    clear hz hpow hr hs
    go_enter Tryz.func86, Tryz.ntmps86
    go_wp2_with fail
    refine HOK.out.mono ?_
    rintro e w' ⟨rfl, rfl⟩
    go_wp2_with fail
    go_ret2
    exact ⟨_, rfl, World.ownsRow_nil _ _ _ _, Below.refl _ _⟩
  · have hcq : ¬ c = q := by omega
    have hcut := hr.cut (k := q) (cap := c) (by omega) (by omega)
    rw [if_neg hcq, lw_drop] at hcut
    have hval : lv xs / 2 ^ K = lv (xs.drop q) / 2 ^ s := by rw [hpow, lv_drop xs q hs (by omega), Nat.div_div_eq_div_mul]
    have hsm := small_drop hs q
    have hml : (xs.drop q).length = n - q := by rw [List.length_drop, hl]
    rw [hval]
    clear hval hpow hr hs
    generalize xs.drop q = ys at *
    obtain ⟨m, hm⟩ : ∃ m, n = q + m := ⟨n - q, by omega⟩
    subst hm
    have hml' : ys.length = m := by omega
    clear hml
    have hVlt := lv_lt ys hsm
    rw [hml'] at hVlt
    have HC := Lib.hid hcut
    have HSM := Lib.hid hsm
    have HML := Lib.hid hml'
    have HV := Lib.hid hVlt
    clear hcut hsm hml' hVlt
    have hsub : (((q + m : Nat) : Int) - (q : Int)) = (m : Int) := by omega
    go_enter Tryz.func86, Tryz.ntmps86
    go_wp2_with fail
    refine HOK.out.mono ?_
    rintro e w' ⟨rfl, rfl⟩
    go_wp2_with (at_make; refine make1 w.heap.size w w rfl _ _ 31 rfl 92 i0 (.int .u32 0) 4 Tryz.underlying31 hi hz0 hz1 hz2 rfl (by decide) .i64 .i64 _ _ m rfl rfl (by omega) (by omega) (by omega) (lw (rowN m (shrRow (lv ys) s 0))) (by rw [← rowN_zeros m _ (fun i _ => by unfold shrRow; rw [if_neg (by omega)])]; simp [lw]) (Nat.le_refl _) (Below.refl _ _) ?_)
    intro w1 hown1 hb1 _
    go_wp2_with fail
    go_loopw [7, 8, 26] (fun _ _ i wr => ∃ k : Nat, k ≤ m ∧ i = .int .i64 k ∧ wr.ownsRow w.heap.size 92 1 (.slice (some ⟨w.heap.size, 0, none⟩) m m) m (lw (rowN m (shrRow (lv ys) s k))) ∧ Below w.heap.size w wr) (fun _ _ i _ => m - (intOf i).toNat)
    case atStart => exact ⟨0, Nat.zero_le _, rfl, hown1, hb1⟩
    case round =>
      clear hown1 hb1
      obtain ⟨k, hk, rfl, hown, hb⟩ := hrel
      by_cases hlt : k < m
      · obtain ⟨b1, o1, u1, hA, hu1, hc1⟩ := (HC.out.below hb).at_ (k := k) (by omega)
        have hjl : k < ys.length := by rw [HML.out]; exact hlt
        rw [lw_get ys k hjl] at hu1
        injection hu1 with hu1
        have hx := HSM.out ys[k] (List.getElem_mem _)
        have c2 := (hown.cellAt k (by omega)).trans (show _ = some (Value.int .u32 (shrRow (lv ys) s k k : Nat)) by rw [lw_get _ k (by rw [rowN_length]; exact hlt), rowN_get])
        have f2 := hown.frozenAt k
        by_cases h1 : k + 1 < m
        · obtain ⟨b2, o2, u2, hA2, hu2, hc2⟩ := (HC.out.below hb).at_ (k := k + 1) (by omega)
          have hjl2 : k + 1 < ys.length := by rw [HML.out]; exact h1
          rw [lw_get ys (k + 1) hjl2] at hu2
          injection hu2 with hu2
          have hy := HSM.out ys[k + 1] (List.getElem_mem _)
          have htwo := two_limbs ys k HSM.out hjl ys[k + 1] (fun _ => rfl) (fun h => by omega) s hs32
          generalize ys[k] = X at *
          generalize ys[k + 1] = Y at *
          subst hu1; subst hu2
          rw [hA] at hA2
          injection hA2 with hA2
          injection hA2 with hb2 ho2
          subst hb2; subst ho2
          have ho := low_or X Y hx hy
          have hst := (hown.stored k (.int .u32 (((X + 4294967296 * Y) / 2 ^ s % 4294967296 : Nat) : Int))).1
          rw [htwo, lw, ← List.map_set, shrRow_step _ _ _ _ hlt, ← htwo] at hst
          have hcast : (((X + 4294967296 * Y) / 2 ^ s % 4294967296 : Nat) : Int) = ((X : Int) + 4294967296 * Y) / 2 ^ s % 4294967296 := by simp
          rw [hcast] at hst
          have hb2 := hb.setCell (p := ⟨w.heap.size, k, none⟩) (Nat.le_refl _) (.int .u32 (((X : Int) + 4294967296 * Y) / 2 ^ s % 4294967296))
          clear hcast htwo hown hb
          go_wp2_with fail
          go_roundw
          case rel => exact ⟨k + 1, by omega, by go_num, hst, hb2⟩
          case measure => simp [intOf]; omega
        · have htwo := two_limbs ys k HSM.out hjl 0 (fun h => by have := HML.out; omega) (fun _ => rfl) s hs32
          generalize ys[k] = X at *
          subst hu1
          rw [Nat.mul_zero, Nat.add_zero] at htwo
          have hst := (hown.stored k (.int .u32 ((X / 2 ^ s % 4294967296 : Nat) : Int))).1
          rw [htwo, lw, ← List.map_set, shrRow_step _ _ _ _ hlt, ← htwo] at hst
          have hcast : ((X / 2 ^ s % 4294967296 : Nat) : Int) = (X : Int) / 2 ^ s % 4294967296 := by simp
          rw [hcast] at hst
          have hb2 := hb.setCell (p := ⟨w.heap.size, k, none⟩) (Nat.le_refl _) (.int .u32 ((X : Int) / 2 ^ s % 4294967296))
          clear hcast htwo hown hb
          go_wp2_with fail
          go_roundw
          case rel => exact ⟨k + 1, by omega, by go_num, hst, hb2⟩
          case measure => simp [intOf]; omega
      · obtain rfl : k = m := by omega
        obtain ⟨A', c', hv, _, hrd⟩ := ownsRow_form hown
        injection hv with hA _ hc'
        subst hA; subst hc'
        have hn := norm_any (rowN k (shrRow (lv ys) s k)) _ k k wr (rowN_length _ _) (by omega) (by omega) hrd (small_rowN _ _ (shrRow_lt _ _ _))
        rw [shrRow_end _ _ _ HV.out] at hn
        have HN := Lib.hid hn
        clear hn hrd hown
        go_wp2_with fail
        refine HN.out.mono ?_
        rintro e w3 ⟨v3, rfl, hown3, hb3⟩
        go_wp2_with fail
        go_ret2
        exact ⟨_, rfl, own_more hown3 hb.size, hb.trans (hb3.mono hb.size)⟩
end Go.Proofs.YtlbbbafehhdpnaaGreatDoor
