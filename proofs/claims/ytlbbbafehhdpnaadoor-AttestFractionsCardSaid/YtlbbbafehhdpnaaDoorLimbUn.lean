/- Contract of package limb: Unpack. -/
import Derived.Test.YtlbbbafehhdpnaaDoorLimbPk
namespace Go.Proofs.YtlbbbafehhdpnaaDoor
open Go.RowKit
set_option linter.unusedVariables false
set_option linter.unusedSimpArgs false

theorem or_b (x c s : Nat) (hx : x < 2 ^ s) (hc : c < 256) (hs : s ≤ 24) : bits .or .u32 (x : Int) ((c * 2 ^ s : Nat) : Int) = ((x + c * 2 ^ s : Nat) : Int) := by
  have h3 : 2 ^ s ≤ 2 ^ 24 := Nat.pow_le_pow_right (by decide) hs
  have e : 2 ^ 24 = 16777216 := by decide
  rw [e] at h3
  have h2 : (c + 1) * 2 ^ s ≤ 256 * 2 ^ s := Nat.mul_le_mul_right _ hc
  rw [Nat.add_mul, Nat.one_mul] at h2
  rw [u32_or_nat _ _ (by omega) (by omega)]
  have h4 := Nat.two_pow_add_eq_or_of_lt hx c
  rw [Nat.or_comm, Nat.mul_comm, ← h4, Nat.add_comm]

theorem LRow.drew {g : Nat} {w wr : World} {o : List Nat} (h : LRow g w wr o) : LRow g w wr.drew o := ⟨h.blk, ⟨h.bel.os, h.bel.tape, h.bel.output, h.bel.size, h.bel.block⟩⟩
set_option maxRecDepth 100000 in
set_option maxHeartbeats 4000000 in
theorem lunpack_any (xs : List Nat) (A : Option Addr) (n c : Nat) (w : World) (hl : xs.length = n) (hnc : n ≤ c) (hn : n ≤ 4000000000000) (hr : Rd w 1 A n (by8 xs)) (hs : small8 xs) :
    Calls Tryd.prog 21 #[.slice A n c] w fun e w' => ∃ v, e = .returned v ∧ w'.ownsRow w.heap.size 25 1 v (limbs (bv xs)).length (lw (limbs (bv xs))) ∧ Below w.heap.size w w' := by
  obtain ⟨i0, hi, hz0, hz1, hz2⟩ := info_parts info_u32
  have HR := Lib.hid hr
  have HS := Lib.hid hs
  have HL := Lib.hid hl
  clear hr hs hl
  obtain ⟨m, hm⟩ : ∃ m, (n + 3) / 4 = m := ⟨_, rfl⟩
  have hmq : ((n : Int) + 3) / 4 = (m : Int) := by omega
  have hmb : m ≤ 1000000000001 := by omega
  go_enter Tryd.func21, Tryd.ntmps21
  go_wp2_with (at_make; refine make1 w.heap.size w w rfl _ _ 22 rfl 25 i0 (.int .u32 0) 4 Tryd.underlying22 hi hz0 hz1 hz2 rfl (by decide) .i64 .i64 _ _ m rfl rfl (by first | rfl | omega) (by first | rfl | omega) (by omega) _ rfl (Nat.le_refl _) (Below.refl _ _) ?_)
  intro w3 hown3 hb3 _
  have hblk := full_blk hown3
  rw [lw_zeros] at hblk
  have hl0 : LRow w.heap.size w w3 (List.replicate m 0) := ⟨hblk, hb3⟩
  have HL0 := Lib.hid hl0
  clear hown3 hb3 hblk hl0 hmq
  go_wp2_with fail
  go_loopw [13] (fun i wr => ∃ (q : Nat) (L : List Nat), q ≤ n ∧ i = .int .i64 (q : Int) ∧ L.length = m ∧ small L ∧ lv L = bv (xs.take q) ∧ LRow w.heap.size w wr L) (fun i _ => n - (intOf i).toNat)
  case atStart => exact ⟨0, _, Nat.zero_le _, rfl, List.length_replicate, small_zeros _, lv_zeros _, HL0.out⟩
  case round =>
    obtain ⟨q, L, hq, rfl, hLl, hLs, hLv, hst⟩ := hrel
    by_cases hlt : q < n
    · obtain ⟨b1, o1, rfl, x0⟩ := (HR.out.below hst.bel).byte q hlt
      have hc8 := small8_getD HS.out q
      have htk := bv_take_succ xs q (by rw [HL.out]; exact hlt)
      generalize xs.getD q 0 = c at *
      have hlt2 := bv_lt (xs.take q) (small8_take HS.out q)
      rw [List.length_take, Nat.min_eq_left (by rw [HL.out]; omega), ← hLv] at hlt2
      have hq4m : q / 4 < m := by omega
      have hxb := limb_room L hLs q (by omega) hlt2
      have hpb := put_byte L hLs q c (by omega) hc8 hlt2
      obtain ⟨z0, z1⟩ := hst.cell (q / 4) (by omega)
      have hx32 := getD_lt hLs (q / 4)
      obtain ⟨x, hxe⟩ : ∃ x, L.getD (q / 4) 0 = x := ⟨_, rfl⟩
      rw [hxe] at hxb z0 hx32
      obtain ⟨d, hd⟩ : ∃ d, q / 4 = d := ⟨_, rfl⟩
      have hdq : (q : Int) / 4 = (d : Int) := by omega
      rw [hd] at hpb z0 z1 hxe hq4m
      clear hd
      have HTK := Lib.hid htk
      have HLV := Lib.hid hLv
      have HLL := Lib.hid hLl
      clear htk hLv hlt2 hLl hm
      rcases (show q % 4 = 0 ∨ q % 4 = 1 ∨ q % 4 = 2 ∨ q % 4 = 3 by omega) with h4 | h4 | h4 | h4
      · skip
        have hq4 : (q : Int) % 4 = 0 := by omega
        have hpw : 2 ^ (8 * (q % 4)) = 1 := by rw [h4]
        rw [hpw] at hxb hpb
        rw [hxe] at hpb
        have hor : bits .or .u32 (x : Int) ((c : Int)) = ((x + c * 1 : Nat) : Int) := by
          have ho := or_b x c (8 * 0) hxb hc8 (by decide)
          have e1 : ((c * 2 ^ (8 * 0) : Nat) : Int) = (c : Int) := by
            have e2 : 2 ^ (8 * 0) = 1 := by decide
            rw [e2]; omega
          rw [e1] at ho
          exact ho
        have hst2 := hst.set (Nat.le_refl _) d (x + c * 1)
        rw [show ((x + c * 1 : Nat) : Int) = (x : Int) + (c : Int) by omega] at hst2
        obtain ⟨hp1, hp2⟩ := hpb
        have HST2 := Lib.hid hst2
        have HP1 := Lib.hid hp1
        have HP2 := Lib.hid hp2
        clear hst2 hp1 hp2 hst hxb hxe hpw h4
        go_upto_region 5 with fail
        go_region
        go_wp2_with fail
        go_roundw
        case rel => exact ⟨q + 1, _, by omega, by go_num, by rw [List.length_set]; exact HLL.out, HP1.out, by rw [HP2.out, HTK.out, HLV.out], HST2.out.drew⟩
        case measure => simp [intOf]; omega
      · skip
        have hq4 : (q : Int) % 4 = 1 := by omega
        have hpw : 2 ^ (8 * (q % 4)) = 256 := by rw [h4]
        rw [hpw] at hxb hpb
        rw [hxe] at hpb
        have hor : bits .or .u32 (x : Int) ((c : Int) * 256) = ((x + c * 256 : Nat) : Int) := by
          have ho := or_b x c (8 * 1) hxb hc8 (by decide)
          have e1 : ((c * 2 ^ (8 * 1) : Nat) : Int) = (c : Int) * 256 := by
            have e2 : 2 ^ (8 * 1) = 256 := by decide
            rw [e2]; omega
          rw [e1] at ho
          exact ho
        have hst2 := hst.set (Nat.le_refl _) d (x + c * 256)
        rw [show ((x + c * 256 : Nat) : Int) = (x : Int) + (c : Int) * 256 by omega] at hst2
        obtain ⟨hp1, hp2⟩ := hpb
        have HST2 := Lib.hid hst2
        have HP1 := Lib.hid hp1
        have HP2 := Lib.hid hp2
        clear hst2 hp1 hp2 hst hxb hxe hpw h4
        go_upto_region 5 with fail
        go_region
        go_wp2_with fail
        go_roundw
        case rel => exact ⟨q + 1, _, by omega, by go_num, by rw [List.length_set]; exact HLL.out, HP1.out, by rw [HP2.out, HTK.out, HLV.out], HST2.out.drew⟩
        case measure => simp [intOf]; omega
      · skip
        have hq4 : (q : Int) % 4 = 2 := by omega
        have hpw : 2 ^ (8 * (q % 4)) = 65536 := by rw [h4]
        rw [hpw] at hxb hpb
        rw [hxe] at hpb
        have hor : bits .or .u32 (x : Int) ((c : Int) * 65536) = ((x + c * 65536 : Nat) : Int) := by
          have ho := or_b x c (8 * 2) hxb hc8 (by decide)
          have e1 : ((c * 2 ^ (8 * 2) : Nat) : Int) = (c : Int) * 65536 := by
            have e2 : 2 ^ (8 * 2) = 65536 := by decide
            rw [e2]; omega
          rw [e1] at ho
          exact ho
        have hst2 := hst.set (Nat.le_refl _) d (x + c * 65536)
        rw [show ((x + c * 65536 : Nat) : Int) = (x : Int) + (c : Int) * 65536 by omega] at hst2
        obtain ⟨hp1, hp2⟩ := hpb
        have HST2 := Lib.hid hst2
        have HP1 := Lib.hid hp1
        have HP2 := Lib.hid hp2
        clear hst2 hp1 hp2 hst hxb hxe hpw h4
        go_upto_region 5 with fail
        go_region
        go_wp2_with fail
        go_roundw
        case rel => exact ⟨q + 1, _, by omega, by go_num, by rw [List.length_set]; exact HLL.out, HP1.out, by rw [HP2.out, HTK.out, HLV.out], HST2.out.drew⟩
        case measure => simp [intOf]; omega
      · skip
        have hq4 : (q : Int) % 4 = 3 := by omega
        have hpw : 2 ^ (8 * (q % 4)) = 16777216 := by rw [h4]
        rw [hpw] at hxb hpb
        rw [hxe] at hpb
        have hor : bits .or .u32 (x : Int) ((c : Int) * 16777216) = ((x + c * 16777216 : Nat) : Int) := by
          have ho := or_b x c (8 * 3) hxb hc8 (by decide)
          have e1 : ((c * 2 ^ (8 * 3) : Nat) : Int) = (c : Int) * 16777216 := by
            have e2 : 2 ^ (8 * 3) = 16777216 := by decide
            rw [e2]; omega
          rw [e1] at ho
          exact ho
        have hst2 := hst.set (Nat.le_refl _) d (x + c * 16777216)
        rw [show ((x + c * 16777216 : Nat) : Int) = (x : Int) + (c : Int) * 16777216 by omega] at hst2
        obtain ⟨hp1, hp2⟩ := hpb
        have HST2 := Lib.hid hst2
        have HP1 := Lib.hid hp1
        have HP2 := Lib.hid hp2
        clear hst2 hp1 hp2 hst hxb hxe hpw h4
        go_upto_region 5 with fail
        go_region
        go_wp2_with fail
        go_roundw
        case rel => exact ⟨q + 1, _, by omega, by go_num, by rw [List.length_set]; exact HLL.out, HP1.out, by rw [HP2.out, HTK.out, HLV.out], HST2.out.drew⟩
        case measure => simp [intOf]; omega
    · obtain rfl : q = n := by omega
      rw [List.take_of_length_le (Nat.le_of_eq HL.out)] at hLv
      have hrd := hst.rd
      have hnm := norm_any L (some ⟨w.heap.size, 0, none⟩) m m wr hLl (Nat.le_refl _) (by omega) (by rw [← hLl]; exact hrd) hLs
      rw [hLv] at hnm
      have HNM := Lib.hid hnm
      have HB := Lib.hid hst.bel
      clear hrd hnm hst hLv hLl hLs hm
      go_wp2_with (go_at_call 39; refine HNM.out.mono ?_; rintro e w9 ⟨v9, rfl, ho9, hb9⟩)
      go_ret
      exact ⟨_, rfl, own_more ho9 HB.out.size, HB.out.trans (hb9.mono HB.out.size)⟩
end Go.Proofs.YtlbbbafehhdpnaaDoor
