/- Contract of package nat: Mul. -/
import Derived.Test.YtlbbbafehhdpnaaGreatDoorLimbMath
import Derived.Test.YtlbbbafehhdpnaaGreatDoorNatMath
import Derived.Test.YtlbbbafehhdpnaaGreatDoorMem2
import Derived.Deep.DeepCutAuto
import Derived.Test.YtlbbbafehhdpnaaGreatDoorShelf
import Derived.Lib.BitFns
namespace Go.Proofs.YtlbbbafehhdpnaaGreatDoor
open Go.RowKit
set_option linter.unusedVariables false
set_option linter.unusedSimpArgs false

theorem lw_getD (l : List Nat) (k : Nat) (h : k < l.length) : (lw l)[k]? = some (.int .u32 ((l.getD k 0 : Nat) : Int)) := by
  rw [lw_get l k h, List.getD_eq_getElem?_getD, List.getElem?_eq_getElem h]
  rfl
theorem lw_set (l : List Nat) (k v : Nat) : (lw l).toArray.setIfInBounds k (.int .u32 (v : Int)) = (lw (l.set k v)).toArray := by
  simp [lw, List.map_set]
theorem lw_zeros (n : Nat) : List.replicate n (Value.int .u32 0) = lw (List.replicate n 0) := by simp [lw]
/-- a row of limbs that is being filled. -/
structure LRow (g : Nat) (w wr : World) (o : List Nat) : Prop where
  blk : wr.heap[g]? = some (.cells (lw o).toArray 92 (0, 0))
  bel : Below g w wr
theorem LRow.set {g : Nat} {w wr : World} {o : List Nat} (h : LRow g w wr o) (hg : g ≤ w.heap.size) (k v : Nat) : LRow g w (wr.setCell ⟨g, k, none⟩ (.int .u32 (v : Int))) (o.set k v) :=
  ⟨by rw [← lw_set]; exact set_blk h.blk k _, h.bel.trans (Fr.below (S := fun b => b = g) ((Fr.refl _ wr).setCell ⟨g, k, none⟩ _ (.inl rfl)) (Nat.le_trans hg h.bel.size) (fun b hb => by omega))⟩
theorem LRow.cell {g : Nat} {w wr : World} {o : List Nat} (h : LRow g w wr o) (k : Nat) (hk : k < o.length) : wr.cell? ⟨g, k, none⟩ = some (.int .u32 ((o.getD k 0 : Nat) : Int)) ∧ wr.frozen? ⟨g, k, none⟩ = false :=
  ⟨(cell_of_blk h.blk k).trans (by rw [List.getElem?_toArray]; exact lw_getD o k hk), frozen_of_blk h.blk k⟩
theorem LRow.rd {g : Nat} {w wr : World} {o : List Nat} (h : LRow g w wr o) : Rd wr 1 (some ⟨g, 0, none⟩) o.length (lw o) :=
  ⟨by rw [lw_length, Nat.mul_one], fun _ => ⟨g, 0, rfl, fun j u hu => by rw [Nat.zero_add, cell_of_blk h.blk, List.getElem?_toArray]; exact hu⟩⟩
theorem Rd.limb {w : World} {A : Option Addr} {n : Nat} {xs : List Nat} (h : Rd w 1 A n (lw xs)) (k : Nat) (hk : k < n) (hl : xs.length = n) : ∃ b off, A = some ⟨b, off, none⟩ ∧ w.cell? ⟨b, off + k, none⟩ = some (.int .u32 ((xs.getD k 0 : Nat) : Int)) := by
  obtain ⟨b, off, u, e, hu, hc⟩ := h.at_ hk
  rw [lw_getD xs k (by omega)] at hu
  obtain rfl := Option.some.inj hu
  exact ⟨b, off, e, hc⟩
theorem prod_int (x y : Nat) (hx : x < 4294967296) (hy : y < 4294967296) : 0 ≤ (x : Int) * (y : Int) ∧ (x : Int) * (y : Int) ≤ 18446744065119617025 ∧ ((x * y : Nat) : Int) = (x : Int) * (y : Int) := by
  have h1 : x * y ≤ 4294967295 * 4294967295 := Nat.mul_le_mul (by omega) (by omega)
  have e : ((x * y : Nat) : Int) = (x : Int) * (y : Int) := Int.natCast_mul x y
  rw [← e]
  exact ⟨by omega, by omega, rfl⟩
set_option maxRecDepth 100000 in
set_option maxHeartbeats 4000000 in
theorem mul_any (xs ys : List Nat) (A A2 : Option Addr) (n c n2 c2 : Nat) (w : World) (hl : xs.length = n) (hnc : n ≤ c) (hn : n ≤ 1099511627776) (hr : Rd w 1 A n (lw xs)) (hs : small xs) (hl2 : ys.length = n2) (hnc2 : n2 ≤ c2) (hn2 : n2 ≤ 1099511627776) (hr2 : Rd w 1 A2 n2 (lw ys)) (hs2 : small ys) :
    Calls Tryz.prog 42 #[.slice A n c, .slice A2 n2 c2] w fun e w' => ∃ v, e = .returned v ∧ w'.ownsRow w.heap.size 92 1 v (limbs (lv xs * lv ys)).length (lw (limbs (lv xs * lv ys))) ∧ Below w.heap.size w w' := by
  obtain ⟨i0, hi, hz0, hz1, hz2⟩ := info_parts info_u32
  have hN1 := norm_any xs A n c w hl hnc (by omega) hr hs
  have hN2 := fun W hW => norm_any ys A2 n2 c2 W hl2 hnc2 (by omega) (hr2.below hW) hs2
  have hX1 := limbs_small (lv xs)
  have hX2 := limbs_small (lv ys)
  have hXl1 : (limbs (lv xs)).length ≤ 1099511627776 := Nat.le_trans (limbs_length_le xs hs) (by omega)
  have hXl2 : (limbs (lv ys)).length ≤ 1099511627776 := Nat.le_trans (limbs_length_le ys hs2) (by omega)
  have hv1 := lv_limbs (lv xs)
  have hv2 := lv_limbs (lv ys)
  generalize limbs (lv xs) = X at *
  generalize limbs (lv ys) = Y at *
  rw [← hv1, ← hv2]
  have HN2 := Lib.hid hN2
  have HX := Lib.hid hX1
  have HY := Lib.hid hX2
  clear hN2 hv1 hv2 hX1 hX2 hr hs hr2 hs2
  go_enter Tryz.func42, Tryz.ntmps42
  go_upto_region 2 with (first | (go_at_call 35; refine hN1.mono ?_; clear hN1; rintro e w1 ⟨v1, rfl, ho1, hb1⟩; obtain ⟨A1, c1, rfl, _, hr1⟩ := ownsRow_form ho1; have hcall := HN2.out w1 hb1; have HR1 := Lib.hid hr1; clear ho1 hr1) | (go_at_call 35; refine hcall.mono ?_; clear hcall; rintro e w2 ⟨v2, rfl, ho2, hb2⟩; obtain ⟨A3, c3, rfl, _, hr3⟩ := ownsRow_form ho2; have HR3 := Lib.hid hr3; have HR2 := Lib.hid (HR1.out.below hb2); have hb12 := hb1.trans (hb2.mono hb1.size); clear ho2 hr3))
  have HB2 := Lib.hid hb12
  clear hb1 hb2 hb12 HR1
  go_wp2_with (at_make; refine make1 w2.heap.size w2 w2 rfl _ _ 31 rfl 92 i0 (.int .u32 0) 4 Tryz.underlying31 hi hz0 hz1 hz2 rfl (by decide) .i64 .i64 ((X.length : Int) + (Y.length : Int)) ((X.length : Int) + (Y.length : Int)) (X.length + Y.length) rfl rfl (by omega) (by omega) (by omega) _ rfl (Nat.le_refl _) (Below.refl _ _) ?_)
  intro w3 hown3 hb3 _
  have hblk := full_blk hown3
  rw [lw_zeros] at hblk
  have hl0 : LRow w2.heap.size w2 w3 (mulAll X Y 0) := ⟨hblk, hb3⟩
  have HL0 := Lib.hid hl0
  clear hown3 hb3 hblk hl0
  go_wp2_with fail
  go_loopw [23] (fun i wr => ∃ q : Nat, q ≤ X.length ∧ i = .int .i64 (q : Int) ∧ LRow w2.heap.size w2 wr (mulAll X Y q)) (fun i _ => X.length - (intOf i).toNat)
  case atStart => exact ⟨0, Nat.zero_le _, rfl, HL0.out⟩
  case round =>
    obtain ⟨q, hq, rfl, hst⟩ := hrel
    have hrows := rows_ok X Y HX.out HY.out q hq
    have hw := hrows.len
    by_cases hlt : q < X.length
    · obtain ⟨b1, o1, rfl, x0⟩ := (HR2.out.below hst.bel).limb q hlt rfl
      have hxs := getD_lt HX.out q
      have hmok := fun p hp => mul_ok (X.getD q 0) q Y (mulAll X Y q) hxs HY.out hrows.sm (by rw [hw]; omega) p hp
      have hnext : mulAll X Y (q + 1) = mulRow (X.getD q 0) q Y (mulAll X Y q) := rfl
      generalize X.getD q 0 = x at *
      generalize mulAll X Y q = o at *
      have HST := Lib.hid hst
      have HMOK := Lib.hid hmok
      have HNEXT := Lib.hid hnext
      clear hst hmok hnext hrows
      go_wp2_with fail
      go_loopw [8, 30] (fun cy j wr => ∃ p : Nat, p ≤ Y.length ∧ j = .int .i64 (p : Int) ∧ cy = .int .u64 ((mulSt x q Y o p).2 : Nat) ∧ LRow w2.heap.size w2 wr (mulSt x q Y o p).1) (fun _ j _ => Y.length - (intOf j).toNat)
      case atStart => exact ⟨0, Nat.zero_le _, rfl, rfl, HST.out⟩
      case round =>
        obtain ⟨p, hp, rfl, rfl, hst⟩ := hrel
        have hm := HMOK.out p hp
        by_cases hlt2 : p < Y.length
        · obtain ⟨b2, o2, rfl, y0⟩ := (HR3.out.below hst.bel).limb p hlt2 rfl
          have hys := getD_lt HY.out p
          have hml : q + p < (mulSt x q Y o p).1.length := by rw [hm.len, hw]; omega
          obtain ⟨z0, z1⟩ := hst.cell (q + p) hml
          have hzs := getD_lt hm.sm (q + p)
          have hcs := hm.carry
          have hnx : mulSt x q Y o (p + 1) = ((mulSt x q Y o p).1.set (q + p) (((mulSt x q Y o p).2 + (x * Y.getD p 0 + (mulSt x q Y o p).1.getD (q + p) 0)) % 4294967296), ((mulSt x q Y o p).2 + (x * Y.getD p 0 + (mulSt x q Y o p).1.getD (q + p) 0)) / 4294967296) := rfl
          obtain ⟨i1, i2, i3⟩ := prod_int x (Y.getD p 0) hxs hys
          have hlen2 := hm.len
          generalize Y.getD p 0 = y at *
          generalize (mulSt x q Y o p).1.getD (q + p) 0 = z at *
          generalize mulSt x q Y o p = st at *
          obtain ⟨t, cc⟩ := st
          simp only at hst hml z0 z1 hcs hnx hlen2
          have HST2 := Lib.hid hst
          have HNX := Lib.hid hnx
          clear hst hnx hm hlen2
          go_wp2_with fail
          have eN : ((cc + (x * y + z) : Nat) : Int) = (cc : Int) + ((x : Int) * (y : Int) + (z : Int)) := by rw [Int.natCast_add, Int.natCast_add, i3]
          generalize cc + (x * y + z) = N at *
          rw [← eN]
          go_roundw
          case rel =>
            refine ⟨p + 1, by omega, by go_num, by rw [HNX.out]; rfl, ?_⟩
            rw [HNX.out]
            exact HST2.out.set (Nat.le_refl _) (q + p) (N % 4294967296)
          case measure => simp [intOf]; omega
        · obtain rfl : p = Y.length := by omega
          have hml : q + Y.length < (mulSt x q Y o Y.length).1.length := by rw [hm.len, hw]; omega
          obtain ⟨z0, z1⟩ := hst.cell (q + Y.length) hml
          have hcs := hm.carry
          have hrow : mulRow x q Y o = (mulSt x q Y o Y.length).1.set (q + Y.length) (mulSt x q Y o Y.length).2 := rfl
          generalize (mulSt x q Y o Y.length).1.getD (q + Y.length) 0 = z at *
          generalize mulSt x q Y o Y.length = st at *
          obtain ⟨t, cc⟩ := st
          simp only at hst hml z0 z1 hcs hrow
          have HST2 := Lib.hid hst
          have HROW := Lib.hid hrow
          clear hst hrow hm
          go_wp2_with fail
          go_roundw
          case rel =>
            refine ⟨q + 1, by omega, by go_num, ?_⟩
            rw [HNEXT.out, HROW.out]
            exact HST2.out.set (Nat.le_refl _) (q + Y.length) cc
          case measure => simp [intOf]; omega
    · obtain rfl : q = X.length := by omega
      have hval := mul_val X Y HX.out HY.out
      have hrd := hst.rd
      have hsm := hrows.sm
      generalize mulAll X Y X.length = o at *
      have hnm := norm_any o (some ⟨w2.heap.size, 0, none⟩) o.length (X.length + Y.length) wr rfl (by omega) (by omega) hrd hsm
      rw [hval, hw] at hnm
      have HB := Lib.hid (HB2.out.trans (hst.bel.mono HB2.out.size))
      clear hval hrd hsm hrows hst
      go_wp2_with (go_at_call 35; refine hnm.mono ?_; clear hnm; rintro e w9 ⟨v9, rfl, ho9, hb9⟩)
      go_ret
      exact ⟨_, rfl, own_more ho9 HB.out.size, HB.out.trans (hb9.mono HB.out.size)⟩
end Go.Proofs.YtlbbbafehhdpnaaGreatDoor

namespace Go.Proofs.YtlbbbafehhdpnaaGreatDoor
open Go.RowKit
set_option linter.unusedVariables false
set_option linter.unusedSimpArgs false

theorem high_or (X U : Nat) (hX : X < 4294967296) (hU : U < 4294967296) : bits .or .u64 ((X : Int) * 4294967296) (U : Int) = ((X * 4294967296 + U : Nat) : Int) := by
  have e : (X : Int) * 4294967296 = ((4294967296 * X : Nat) : Int) := by omega
  rw [e, u64_or_nat _ _ (by omega) (by omega)]
  have h3 := Nat.two_pow_add_eq_or_of_lt (i := 32) (show U < 2 ^ 32 by omega) X
  have e2 : (2 : Nat) ^ 32 = 4294967296 := by decide
  rw [e2] at h3
  rw [← h3, Nat.mul_comm]
set_option maxRecDepth 100000 in
set_option maxHeartbeats 4000000 in
theorem divw_any (xs : List Nat) (A : Option Addr) (n c d : Nat) (w : World) (hl : xs.length = n) (hnc : n ≤ c) (hn : n ≤ 1099511627776) (hr : Rd w 1 A n (lw xs)) (hs : small xs) (hd : 0 < d) (hd2 : d < 4294967296) :
    Calls Tryz.prog 72 #[.slice A n c, .int .u32 (d : Int)] w fun e w' => ∃ v, e = .returned (.tuple #[v, .int .u32 ((lv xs % d : Nat) : Int), .bool true]) ∧ w'.ownsRow w.heap.size 92 1 v (limbs (lv xs / d)).length (lw (limbs (lv xs / d))) ∧ Below w.heap.size w w' := by
  obtain ⟨i0, hi, hz0, hz1, hz2⟩ := info_parts info_u32
  have hd0 : ((d : Int) == 0) = false := by rw [beq_eq_false_iff_ne]; omega
  have HR := Lib.hid hr
  have HS := Lib.hid hs
  clear hr hs
  go_enter Tryz.func72, Tryz.ntmps72
  go_wp2_with (at_make; refine make1 w.heap.size w w rfl _ _ 31 rfl 92 i0 (.int .u32 0) 4 Tryz.underlying31 hi hz0 hz1 hz2 rfl (by decide) .i64 .i64 (n : Int) (n : Int) n rfl rfl (by omega) (by omega) (by omega) _ rfl (Nat.le_refl _) (Below.refl _ _) ?_)
  intro w3 hown3 hb3 _
  have hblk := full_blk hown3
  rw [lw_zeros] at hblk
  have hl0 : LRow w.heap.size w w3 (divSt xs d 0).1 := ⟨by rw [divSt, hl]; exact hblk, hb3⟩
  have HL0 := Lib.hid hl0
  clear hown3 hb3 hblk hl0
  go_wp2_with fail
  go_loopw [8, 9] (fun r x wr => ∃ k : Nat, k ≤ n ∧ x = .int .i64 (((n - k : Nat) : Int) - 1) ∧ r = .int .u64 ((divSt xs d k).2 : Nat) ∧ LRow w.heap.size w wr (divSt xs d k).1) (fun _ x _ => (intOf x + 1).toNat)
  case atStart => exact ⟨0, Nat.zero_le _, by simp, rfl, HL0.out⟩
  case round =>
    obtain ⟨k, hk, rfl, rfl, hst⟩ := hrel
    have hok := div_ok xs d HS.out hd k (by omega)
    by_cases hlt : k < n
    · obtain ⟨i, hi'⟩ : ∃ i, n - k = i + 1 := ⟨n - (k + 1), by omega⟩
      have hi2 : n - (k + 1) = i := by omega
      have em : ((n - k : Nat) : Int) - 1 = i := by rw [hi']; omega
      rw [em]
      have hnx : divSt xs d (k + 1) = ((divSt xs d k).1.set i (((divSt xs d k).2 * 4294967296 + xs.getD i 0) / d), ((divSt xs d k).2 * 4294967296 + xs.getD i 0) % d) := by
        rw [divSt, hl, hi2]
      have hin : i < n := by omega
      obtain ⟨b1, o1, rfl, x0⟩ := (HR.out.below hst.bel).limb i hin hl
      have hxs := getD_lt HS.out i
      obtain ⟨z0, z1⟩ := hst.cell i (by rw [hok.len, hl]; exact hin)
      have hrest := hok.rest
      have hrl := hok.len
      rw [hl] at hrl
      have hor := high_or (divSt xs d k).2 (xs.getD i 0) (by omega) hxs
      have hq := quot_lt (divSt xs d k).2 (xs.getD i 0) d hrest hxs
      generalize xs.getD i 0 = x at *
      generalize (divSt xs d k).1.getD i 0 = z at *
      generalize divSt xs d k = st at *
      obtain ⟨t, r⟩ := st
      simp only at hst z0 z1 hrest hnx hrl hor hq
      have HST := Lib.hid hst
      have HNX := Lib.hid hnx
      have hNb : r * 4294967296 + x < 18446744073709551616 := by omega
      have hmd : (r * 4294967296 + x) % d < d := Nat.mod_lt _ hd
      clear hst hnx em hi'
      generalize hN : r * 4294967296 + x = N at *
      clear hN
      have hin2 : (i : Int) < (n : Int) := by omega
      have hr32 : (r : Int) < 4294967296 := by omega
      have hdi : (0 : Int) < (d : Int) := by omega
      have eq1 : (N : Int) / (d : Int) = ((N / d : Nat) : Int) := rfl
      have eq2 : (N : Int) % (d : Int) = ((N % d : Nat) : Int) := rfl
      have hwr : IntKind.u64.wrap ((N : Int) / (d : Int)) % 4294967296 = ((N / d : Nat) : Int) := by
        rw [eq1]
        generalize N / d = Q at *
        first | (rw [IntKind.wrap_u64]; omega) | (simp [IntKind.wrap]; omega) | (unfold IntKind.wrap; simp; omega)
      have HWR := Lib.hid hwr
      have HE2 := Lib.hid eq2
      clear hwr eq1 eq2
      go_wp2_with fail
      rw [HWR.out, HE2.out]
      go_roundw
      case rel =>
        refine ⟨k + 1, by omega, ?_, by rw [HNX.out], ?_⟩
        · rw [hi2]
        · rw [HNX.out]
          exact HST.out.set (Nat.le_refl _) i (N / d)
      case measure => first | (simp [intOf]; done) | (simp [intOf]; omega)
    · obtain rfl : k = n := by omega
      have hv := div_val xs d HS.out hd
      rw [hl] at hv
      have hrd := hst.rd
      have hsm := hok.sm
      have hln := hok.len
      have hrest := hok.rest
      rw [hl] at hln
      obtain ⟨hv1, hv2⟩ := hv
      have e0 : ((k - k : Nat) : Int) - 1 = -1 := by omega
      rw [e0]
      generalize divSt xs d k = st at *
      obtain ⟨t, r⟩ := st
      simp only at hst hrd hsm hln hrest hv1 hv2 ⊢
      have hnm := norm_any t (some ⟨w.heap.size, 0, none⟩) t.length k wr rfl (by omega) (by omega) hrd hsm
      rw [hv1, hln] at hnm
      have HV2 := Lib.hid hv2
      have HB := Lib.hid hst.bel
      clear hv1 hv2 hrd hsm hst hok e0
      go_wp2_with (go_at_call 35; refine hnm.mono ?_; clear hnm; rintro e w9 ⟨v9, rfl, ho9, hb9⟩)
      go_ret3
      refine ⟨_, ?_, own_more ho9 HB.out.size, HB.out.trans (hb9.mono HB.out.size)⟩
      have hr2 : r < 4294967296 := by omega
      rw [← HV2.out]
      first | rfl | (congr 3; simp; omega)
end Go.Proofs.YtlbbbafehhdpnaaGreatDoor

namespace Go.Proofs.YtlbbbafehhdpnaaGreatDoor
open Go.RowKit
set_option linter.unusedVariables false
set_option linter.unusedSimpArgs false

/-- how many bits a number has. -/
def bl (N : Nat) : Nat := if N = 0 then 0 else N.log2 + 1
theorem bl_le {N n : Nat} (h : N < 2 ^ n) : bl N ≤ n := by
  unfold bl
  split
  · omega
  · rename_i h0
    have := (Nat.log2_lt h0).2 h
    omega
theorem bl_lt (N : Nat) : N < 2 ^ bl N := by
  unfold bl
  split
  · rename_i h0; subst h0; decide
  · rename_i h0
    exact (Nat.log2_lt h0).1 (by omega)
theorem bl_of {N b : Nat} (h1 : N < 2 ^ (b + 1)) (h2 : 2 ^ b ≤ N) : bl N = b + 1 := by
  have h0 : N ≠ 0 := by have := Nat.two_pow_pos b; omega
  have ha := bl_le h1
  unfold bl at ha ⊢
  rw [if_neg h0] at ha ⊢
  have hb : ¬ N.log2 < b := fun h => by have := (Nat.log2_lt h0).1 h; omega
  omega
theorem bitLen_spec (x : Nat) (hx : x < 18446744073709551616) (h0 : x ≠ 0) : ∃ b, Lib.bitLen x = b + 1 ∧ x < 2 ^ (b + 1) ∧ 2 ^ b ≤ x := by
  induction x using Nat.strongRecOn with
  | ind x ih =>
    have hh := Lib.bitLen_half x h0 hx
    by_cases h1 : x / 2 = 0
    · have : x = 1 := by omega
      subst this
      exact ⟨0, by decide, by decide, by decide⟩
    · obtain ⟨b, e, q1, q2⟩ := ih (x / 2) (by omega) (by omega) h1
      refine ⟨b + 1, by rw [hh, e]; omega, ?_, ?_⟩
      · rw [Nat.pow_succ]; omega
      · rw [Nat.pow_succ]; omega
theorem limbs_top (N : Nat) (h : N ≠ 0) : 0 < (limbs N).length ∧ (limbs N).getD ((limbs N).length - 1) 0 ≠ 0 := by
  induction N using Nat.strongRecOn with
  | ind N ih =>
    rw [limbs_pos N h]
    by_cases h1 : N / 4294967296 = 0
    · rw [h1, limbs_zero]
      simp
      omega
    · obtain ⟨q1, q2⟩ := ih (N / 4294967296) (by omega) h1
      refine ⟨by simp, ?_⟩
      obtain ⟨m, hm⟩ : ∃ m, (limbs (N / 4294967296)).length = m + 1 := ⟨_, (Nat.succ_pred_eq_of_pos q1).symm⟩
      rw [List.length_cons, hm, Nat.add_sub_cancel, List.getD_cons_succ]
      rw [hm, Nat.add_sub_cancel] at q2
      exact q2
theorem lv_split (L : List Nat) (m : Nat) (hs : small L) (hl : L.length = m + 1) : ∃ R, lv L = R + 2 ^ (32 * m) * L.getD m 0 ∧ R < 2 ^ (32 * m) := by
  have h := lv_takeD L m (by omega)
  rw [List.take_of_length_le (by omega)] at h
  have h2 := lv_lt (L.take m) (small_take hs m)
  rw [List.length_take, Nat.min_eq_left (by omega)] at h2
  exact ⟨_, h, h2⟩
theorem bits_val (N m : Nat) (h : (limbs N).length = m + 1) : bl N = 32 * m + Lib.bitLen ((limbs N).getD m 0) := by
  have h0 : N ≠ 0 := fun e => by rw [e, limbs_zero] at h; simp at h
  obtain ⟨_, ht⟩ := limbs_top N h0
  rw [h, Nat.add_sub_cancel] at ht
  have hs := getD_lt (limbs_small N) m
  obtain ⟨R, e, hR⟩ := lv_split _ m (limbs_small N) h
  rw [lv_limbs] at e
  obtain ⟨b, eb, q1, q2⟩ := bitLen_spec ((limbs N).getD m 0) (by omega) ht
  generalize (limbs N).getD m 0 = T at *
  rw [eb, ← Nat.add_assoc]
  refine bl_of ?_ ?_
  · rw [e, Nat.add_assoc, Nat.pow_add]
    have : 2 ^ (32 * m) * (T + 1) ≤ 2 ^ (32 * m) * 2 ^ (b + 1) := Nat.mul_le_mul (Nat.le_refl _) q1
    rw [Nat.mul_add] at this
    omega
  · rw [e, Nat.pow_add]
    have : 2 ^ (32 * m) * 2 ^ b ≤ 2 ^ (32 * m) * T := Nat.mul_le_mul (Nat.le_refl _) q2
    omega
theorem take_len {xs L : List Nat} {k n : Nat} (h : xs.take k = L) (hk : k ≤ n) (hl : xs.length = n) : k = L.length := by
  rw [← h, List.length_take]
  omega
set_option maxRecDepth 100000 in
theorem lbits_any (xs : List Nat) (A : Option Addr) (n c : Nat) (w : World) (hl : xs.length = n) (hnc : n ≤ c) (hn : n ≤ 1099511627776) (hr : Rd w 1 A n (lw xs)) (hs : small xs) :
    Calls Tryz.prog 61 #[.slice A n c] w fun e w' => e = .returned (.int .i64 ((bl (lv xs) : Nat) : Int)) ∧ w' = w := by
  have hcut := cut_any xs A n c w hl hnc (by omega) hr hs
  have hL := limbs_small (lv xs)
  by_cases h0 : lv xs = 0
  · rw [h0, limbs_zero] at hcut
    rw [h0, show bl 0 = 0 from rfl]
    clear h0 hL
    go_enter Tryz.func61, Tryz.ntmps61
    go_wp2_with (go_at_call 52; refine hcut.mono ?_; clear hcut; rintro e w' ⟨k, rfl, hk, htk, hw⟩; obtain rfl := hw; obtain rfl : k = 0 := take_len htk hk hl)
    go_ret
    exact ⟨rfl, rfl⟩
  · obtain ⟨q1, q2⟩ := limbs_top (lv xs) h0
    obtain ⟨m, hm⟩ : ∃ m, (limbs (lv xs)).length = m + 1 := ⟨_, (Nat.succ_pred_eq_of_pos q1).symm⟩
    have hbv := bits_val (lv xs) m hm
    have hlz := fun W (x : Nat) (hx : x < 4294967296) => Tryz.bits_LeadingZeros32 (x : Int) W (by omega) (by omega)
    have hgl := getD_lt hL m
    have hblb : Lib.bitLen ((limbs (lv xs)).getD m 0) ≤ 32 := Lib.bitLen_le _ 32 (by omega) (by omega)
    have HR := Lib.hid hr
    have HLZ := Lib.hid hlz
    have HBV := Lib.hid hbv
    have HLM := Lib.hid hm
    clear h0 q1 q2 hr hlz hbv hm
    go_enter Tryz.func61, Tryz.ntmps61
    go_upto_region 4 with (go_at_call 52; refine hcut.mono ?_; clear hcut; rintro e w' ⟨k, rfl, hk, htk, hw⟩; obtain rfl := hw; obtain rfl : k = m + 1 := (take_len htk hk hl).trans HLM.out)
    have hrk := HR.out.take hk
    rw [lw_take, htk] at hrk
    obtain ⟨b, off, rfl, x0⟩ := hrk.limb m (by omega) HLM.out
    generalize (limbs (lv xs)).getD m 0 = T at *
    have hz := HLZ.out w T hgl
    rw [Int.toNat_natCast] at hz
    clear htk hrk
    generalize Lib.bitLen T = bt at *
    go_wp2_with (go_at_call 74; refine hz.mono ?_; clear hz; rintro e w' ⟨rfl, hw⟩; obtain rfl := hw.symm; clear hw)
    go_ret
    exact ⟨by rw [HBV.out]; first | rfl | go_num | (congr 2; omega), rfl⟩
end Go.Proofs.YtlbbbafehhdpnaaGreatDoor
