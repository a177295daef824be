/- Contract of package limb: Add. -/
import Derived.Test.YtlbbbafehhdpnaaGreatDoorNatMul
namespace Go.Proofs.YtlbbbafehhdpnaaGreatDoor
open Go.RowKit
set_option linter.unusedVariables false
set_option linter.unusedSimpArgs false

theorem add_step (os : List Nat) (k C t D S : Nat) (hl : os.length = k) (h : lv os + 2 ^ (32 * k) * C = S) (ht : t = C + D) : lv (os ++ [t % 4294967296]) + 2 ^ (32 * (k + 1)) * (t / 4294967296) = S + 2 ^ (32 * k) * D := by
  rw [lv_append, hl, pow_succ32]
  simp only [lv, Nat.mul_zero, Nat.add_zero]
  rw [Nat.mul_assoc, Nat.add_assoc, ← Nat.mul_add, Nat.mod_add_div, ht, Nat.mul_add, ← Nat.add_assoc, h]
theorem take_over (l : List Nat) (k : Nat) (h : l.length ≤ k) : l.take (k + 1) = l.take k := by
  rw [List.take_of_length_le (by omega), List.take_of_length_le h]
set_option maxRecDepth 100000 in
set_option maxHeartbeats 4000000 in
theorem ladd_any (xs ys : List Nat) (A A2 : Option Addr) (n c n2 c2 : Nat) (w : World) (hl : xs.length = n) (hnc : n ≤ c) (hn : n ≤ 1099511627776) (hr : Rd w 1 A n (lw xs)) (hs : small xs) (hl2 : ys.length = n2) (hnc2 : n2 ≤ c2) (hn2 : n2 ≤ 1099511627776) (hr2 : Rd w 1 A2 n2 (lw ys)) (hs2 : small ys) :
    Calls Tryz.prog 58 #[.slice A n c, .slice A2 n2 c2] w fun e w' => ∃ v, e = .returned v ∧ w'.ownsRow w.heap.size 92 1 v (limbs (lv xs + lv ys)).length (lw (limbs (lv xs + lv ys))) ∧ Below w.heap.size w w' := by
  obtain ⟨i0, hi, hz0, hz1, hz2⟩ := info_parts info_u32
  have HR := Lib.hid hr
  have HS := Lib.hid hs
  have HR2 := Lib.hid hr2
  have HS2 := Lib.hid hs2
  clear hr hs hr2 hs2
  by_cases hsw : n < n2
  · have hsw' : (n : Int) < (n2 : Int) := by omega
    go_enter Tryz.func58, Tryz.ntmps58
    go_wp2_with (at_make; refine make2 w.heap.size w w rfl _ _ 31 rfl 92 i0 (.int .u32 0) 4 Tryz.underlying31 hi hz0 hz1 hz2 rfl (by decide) .i64 .i64 0 _ 0 (n2 + 1) rfl rfl rfl (by first | rfl | omega) (by omega) (by omega) [] rfl (Nat.le_refl _) (Below.refl _ _) ?_)
    intro w1 hown1 hb1 _
    go_wp2_with fail
    go_loopw [5, 6, 22] (fun o cy i wr => ∃ (k C : Nat) (os : List Nat), k ≤ n2 ∧ i = .int .i64 (k : Int) ∧ cy = .int .u64 (C : Int) ∧ C ≤ 1 ∧ os.length = k ∧ small os ∧ lv os + 2 ^ (32 * k) * C = lv (ys.take k) + lv (xs.take k) ∧ wr.ownsRow w.heap.size 92 1 o k (lw os) ∧ Below w.heap.size w wr) (fun _ _ i _ => n2 - (intOf i).toNat)
    case atStart => exact ⟨0, 0, [], Nat.zero_le _, rfl, rfl, by omega, rfl, small_nil, by simp [lv], hown1, hb1⟩
    case round =>
      clear hown1 hb1
      obtain ⟨k, C, os, hk, rfl, rfl, hC, hol, hos, heq, hown, hbk⟩ := hrel
      by_cases hlt : k < n2
      · obtain ⟨b1, o1, rfl, x0⟩ := (HR2.out.below hbk).limb k hlt hl2
        have hx := getD_lt HS2.out k
        have ht1 := lv_takeD ys k (by omega)
        have hstp := fun t D ht => add_step os k C t D _ hol heq ht
        have HOW := Lib.hid hown
        have HBK := Lib.hid hbk
        have HOL := Lib.hid hol
        have HOS := Lib.hid hos
        by_cases hlt2 : k < n
        · obtain ⟨b2, o2, rfl, y0⟩ := (HR.out.below hbk).limb k hlt2 hl
          have hy := getD_lt HS.out k
          have ht2 := lv_takeD xs k (by omega)
          have hs := hstp (C + ys.getD k 0 + xs.getD k 0) (ys.getD k 0 + xs.getD k 0) (by omega)
          have hst : lv (os ++ [(C + ys.getD k 0 + xs.getD k 0) % 4294967296]) + 2 ^ (32 * (k + 1)) * ((C + ys.getD k 0 + xs.getD k 0) / 4294967296) = lv (ys.take (k + 1)) + lv (xs.take (k + 1)) := by
            rw [hs, ht1, ht2, Nat.mul_add]
            omega
          have hlt' : (k : Int) < (n : Int) := by omega
          generalize ys.getD k 0 = x at *
          generalize xs.getD k 0 = y at *
          obtain ⟨N, hN⟩ : ∃ N, N = C + x + y := ⟨_, rfl⟩
          rw [← hN] at hst
          have HST := Lib.hid hst
          clear hst hs hstp ht1 ht2 heq hown hbk hol hos
          go_wp2_with (at_builtin; refine app1 w.heap.size w wr _ 92 rfl _ _ 31 rfl i0 (.int .u32 0) 4 Tryz.underlying31 hi hz0 hz1 hz2 rfl (by decide) _ k _ rfl (Nat.le_refl _) HOW.out HBK.out rfl rfl (by omega) ?_)
          intro v1 w2 hown2 hb2 _
          have eN : ((N : Nat) : Int) = (C : Int) + (x : Int) + (y : Int) := by omega
          rw [← eN] at hown2
          have e1 : (N : Int) % 4294967296 = ((N % 4294967296 : Nat) : Int) := rfl
          have e2 : (N : Int) / 4294967296 = ((N / 4294967296 : Nat) : Int) := rfl
          go_wp2_with fail
          rw [← eN]
          go_roundw
          case rel =>
            refine ⟨k + 1, N / 4294967296, os ++ [N % 4294967296], by omega, by go_num, rfl, by omega, by rw [List.length_append, HOL.out]; rfl, small_append.2 ⟨HOS.out, fun x hx => by simp at hx; omega⟩, HST.out, ?_, hb2⟩
            rw [lw_append]
            exact hown2
          case measure => simp [intOf]; omega
        · have hs := hstp (C + ys.getD k 0) (ys.getD k 0) rfl
          have hst : lv (os ++ [(C + ys.getD k 0) % 4294967296]) + 2 ^ (32 * (k + 1)) * ((C + ys.getD k 0) / 4294967296) = lv (ys.take (k + 1)) + lv (xs.take (k + 1)) := by
            rw [hs, ht1, take_over xs k (by omega)]
            omega
          have hlt' : ¬ (k : Int) < (n : Int) := by omega
          generalize ys.getD k 0 = x at *
          obtain ⟨N, hN⟩ : ∃ N, N = C + x := ⟨_, rfl⟩
          rw [← hN] at hst
          have HST := Lib.hid hst
          clear hst hs hstp ht1 heq hown hbk hol hos
          go_wp2_with (at_builtin; refine app1 w.heap.size w wr _ 92 rfl _ _ 31 rfl i0 (.int .u32 0) 4 Tryz.underlying31 hi hz0 hz1 hz2 rfl (by decide) _ k _ rfl (Nat.le_refl _) HOW.out HBK.out rfl rfl (by omega) ?_)
          intro v1 w2 hown2 hb2 _
          have eN : ((N : Nat) : Int) = (C : Int) + (x : Int) := by omega
          rw [← eN] at hown2
          have e1 : (N : Int) % 4294967296 = ((N % 4294967296 : Nat) : Int) := rfl
          have e2 : (N : Int) / 4294967296 = ((N / 4294967296 : Nat) : Int) := rfl
          go_wp2_with fail
          rw [← eN]
          go_roundw
          case rel =>
            refine ⟨k + 1, N / 4294967296, os ++ [N % 4294967296], by omega, by go_num, rfl, by omega, by rw [List.length_append, HOL.out]; rfl, small_append.2 ⟨HOS.out, fun x hx => by simp at hx; omega⟩, HST.out, ?_, hb2⟩
            rw [lw_append]
            exact hown2
          case measure => simp [intOf]; omega
      · obtain rfl : k = n2 := by omega
        rw [List.take_of_length_le (by omega), List.take_of_length_le (by omega)] at heq
        have hval : lv (os ++ [C]) = lv xs + lv ys := by
          rw [lv_append, hol]
          simp only [lv, Nat.mul_zero, Nat.add_zero]
          omega
        have hsm : small (os ++ [C]) := small_append.2 ⟨hos, fun x hx => by simp at hx; omega⟩
        have hln : (os ++ [C]).length = k + 1 := by rw [List.length_append, hol]; rfl
        have HV := Lib.hid hval
        have HSM := Lib.hid hsm
        have HLN := Lib.hid hln
        clear hval hsm hln heq hos hol
        go_wp2_with (at_builtin; refine app1 w.heap.size w wr _ 92 rfl _ _ 31 rfl i0 (.int .u32 0) 4 Tryz.underlying31 hi hz0 hz1 hz2 rfl (by decide) _ k _ rfl (Nat.le_refl _) hown hbk rfl rfl (by omega) ?_)
        intro v1 w2 hown2 hb2 _
        obtain ⟨A2', c2', rfl, hc2', hr2'⟩ := ownsRow_form hown2
        have hr3 : Rd w2 1 A2' (k + 1) (lw (os ++ [C])) := by rw [lw_append]; exact hr2'
        have hnm := norm_any (os ++ [C]) A2' (k + 1) c2' w2 HLN.out hc2' (by omega) hr3 HSM.out
        rw [HV.out] at hnm
        clear hr2' hr3 hown hbk hown2
        go_wp2_with (go_at_call 35; refine hnm.mono ?_; clear hnm; rintro e w9 ⟨v9, rfl, ho9, hb9⟩)
        go_ret
        exact ⟨_, rfl, own_more ho9 hb2.size, hb2.trans (hb9.mono hb2.size)⟩
  · have hsw' : ¬ (n : Int) < (n2 : Int) := by omega
    go_enter Tryz.func58, Tryz.ntmps58
    go_wp2_with (at_make; refine make2 w.heap.size w w rfl _ _ 31 rfl 92 i0 (.int .u32 0) 4 Tryz.underlying31 hi hz0 hz1 hz2 rfl (by decide) .i64 .i64 0 _ 0 (n + 1) rfl rfl rfl (by first | rfl | omega) (by omega) (by omega) [] rfl (Nat.le_refl _) (Below.refl _ _) ?_)
    intro w1 hown1 hb1 _
    go_wp2_with fail
    go_loopw [5, 6, 22] (fun o cy i wr => ∃ (k C : Nat) (os : List Nat), k ≤ n ∧ i = .int .i64 (k : Int) ∧ cy = .int .u64 (C : Int) ∧ C ≤ 1 ∧ os.length = k ∧ small os ∧ lv os + 2 ^ (32 * k) * C = lv (xs.take k) + lv (ys.take k) ∧ wr.ownsRow w.heap.size 92 1 o k (lw os) ∧ Below w.heap.size w wr) (fun _ _ i _ => n - (intOf i).toNat)
    case atStart => exact ⟨0, 0, [], Nat.zero_le _, rfl, rfl, by omega, rfl, small_nil, by simp [lv], hown1, hb1⟩
    case round =>
      clear hown1 hb1
      obtain ⟨k, C, os, hk, rfl, rfl, hC, hol, hos, heq, hown, hbk⟩ := hrel
      by_cases hlt : k < n
      · obtain ⟨b1, o1, rfl, x0⟩ := (HR.out.below hbk).limb k hlt hl
        have hx := getD_lt HS.out k
        have ht1 := lv_takeD xs k (by omega)
        have hstp := fun t D ht => add_step os k C t D _ hol heq ht
        have HOW := Lib.hid hown
        have HBK := Lib.hid hbk
        have HOL := Lib.hid hol
        have HOS := Lib.hid hos
        by_cases hlt2 : k < n2
        · obtain ⟨b2, o2, rfl, y0⟩ := (HR2.out.below hbk).limb k hlt2 hl2
          have hy := getD_lt HS2.out k
          have ht2 := lv_takeD ys k (by omega)
          have hs := hstp (C + xs.getD k 0 + ys.getD k 0) (xs.getD k 0 + ys.getD k 0) (by omega)
          have hst : lv (os ++ [(C + xs.getD k 0 + ys.getD k 0) % 4294967296]) + 2 ^ (32 * (k + 1)) * ((C + xs.getD k 0 + ys.getD k 0) / 4294967296) = lv (xs.take (k + 1)) + lv (ys.take (k + 1)) := by
            rw [hs, ht1, ht2, Nat.mul_add]
            omega
          have hlt' : (k : Int) < (n2 : Int) := by omega
          generalize xs.getD k 0 = x at *
          generalize ys.getD k 0 = y at *
          obtain ⟨N, hN⟩ : ∃ N, N = C + x + y := ⟨_, rfl⟩
          rw [← hN] at hst
          have HST := Lib.hid hst
          clear hst hs hstp ht1 ht2 heq hown hbk hol hos
          go_wp2_with (at_builtin; refine app1 w.heap.size w wr _ 92 rfl _ _ 31 rfl i0 (.int .u32 0) 4 Tryz.underlying31 hi hz0 hz1 hz2 rfl (by decide) _ k _ rfl (Nat.le_refl _) HOW.out HBK.out rfl rfl (by omega) ?_)
          intro v1 w2 hown2 hb2 _
          have eN : ((N : Nat) : Int) = (C : Int) + (x : Int) + (y : Int) := by omega
          rw [← eN] at hown2
          have e1 : (N : Int) % 4294967296 = ((N % 4294967296 : Nat) : Int) := rfl
          have e2 : (N : Int) / 4294967296 = ((N / 4294967296 : Nat) : Int) := rfl
          go_wp2_with fail
          rw [← eN]
          go_roundw
          case rel =>
            refine ⟨k + 1, N / 4294967296, os ++ [N % 4294967296], by omega, by go_num, rfl, by omega, by rw [List.length_append, HOL.out]; rfl, small_append.2 ⟨HOS.out, fun x hx => by simp at hx; omega⟩, HST.out, ?_, hb2⟩
            rw [lw_append]
            exact hown2
          case measure => simp [intOf]; omega
        · have hs := hstp (C + xs.getD k 0) (xs.getD k 0) rfl
          have hst : lv (os ++ [(C + xs.getD k 0) % 4294967296]) + 2 ^ (32 * (k + 1)) * ((C + xs.getD k 0) / 4294967296) = lv (xs.take (k + 1)) + lv (ys.take (k + 1)) := by
            rw [hs, ht1, take_over ys k (by omega)]
            omega
          have hlt' : ¬ (k : Int) < (n2 : Int) := by omega
          generalize xs.getD k 0 = x at *
          obtain ⟨N, hN⟩ : ∃ N, N = C + x := ⟨_, rfl⟩
          rw [← hN] at hst
          have HST := Lib.hid hst
          clear hst hs hstp ht1 heq hown hbk hol hos
          go_wp2_with (at_builtin; refine app1 w.heap.size w wr _ 92 rfl _ _ 31 rfl i0 (.int .u32 0) 4 Tryz.underlying31 hi hz0 hz1 hz2 rfl (by decide) _ k _ rfl (Nat.le_refl _) HOW.out HBK.out rfl rfl (by omega) ?_)
          intro v1 w2 hown2 hb2 _
          have eN : ((N : Nat) : Int) = (C : Int) + (x : Int) := by omega
          rw [← eN] at hown2
          have e1 : (N : Int) % 4294967296 = ((N % 4294967296 : Nat) : Int) := rfl
          have e2 : (N : Int) / 4294967296 = ((N / 4294967296 : Nat) : Int) := rfl
          go_wp2_with fail
          rw [← eN]
          go_roundw
          case rel =>
            refine ⟨k + 1, N / 4294967296, os ++ [N % 4294967296], by omega, by go_num, rfl, by omega, by rw [List.length_append, HOL.out]; rfl, small_append.2 ⟨HOS.out, fun x hx => by simp at hx; omega⟩, HST.out, ?_, hb2⟩
            rw [lw_append]
            exact hown2
          case measure => simp [intOf]; omega
      · obtain rfl : k = n := by omega
        rw [List.take_of_length_le (by omega), List.take_of_length_le (by omega)] at heq
        have hval : lv (os ++ [C]) = lv xs + lv ys := by
          rw [lv_append, hol]
          simp only [lv, Nat.mul_zero, Nat.add_zero]
          omega
        have hsm : small (os ++ [C]) := small_append.2 ⟨hos, fun x hx => by simp at hx; omega⟩
        have hln : (os ++ [C]).length = k + 1 := by rw [List.length_append, hol]; rfl
        have HV := Lib.hid hval
        have HSM := Lib.hid hsm
        have HLN := Lib.hid hln
        clear hval hsm hln heq hos hol
        go_wp2_with (at_builtin; refine app1 w.heap.size w wr _ 92 rfl _ _ 31 rfl i0 (.int .u32 0) 4 Tryz.underlying31 hi hz0 hz1 hz2 rfl (by decide) _ k _ rfl (Nat.le_refl _) hown hbk rfl rfl (by omega) ?_)
        intro v1 w2 hown2 hb2 _
        obtain ⟨A2', c2', rfl, hc2', hr2'⟩ := ownsRow_form hown2
        have hr3 : Rd w2 1 A2' (k + 1) (lw (os ++ [C])) := by rw [lw_append]; exact hr2'
        have hnm := norm_any (os ++ [C]) A2' (k + 1) c2' w2 HLN.out hc2' (by omega) hr3 HSM.out
        rw [HV.out] at hnm
        clear hr2' hr3 hown hbk hown2
        go_wp2_with (go_at_call 35; refine hnm.mono ?_; clear hnm; rintro e w9 ⟨v9, rfl, ho9, hb9⟩)
        go_ret
        exact ⟨_, rfl, own_more ho9 hb2.size, hb2.trans (hb9.mono hb2.size)⟩
end Go.Proofs.YtlbbbafehhdpnaaGreatDoor
