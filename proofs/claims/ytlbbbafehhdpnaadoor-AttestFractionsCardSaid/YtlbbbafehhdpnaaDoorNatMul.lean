/- Contract of package nat: Mul. -/
import Derived.Test.YtlbbbafehhdpnaaDoorLimbA
import Derived.Test.YtlbbbafehhdpnaaDoorLimbMath
import Derived.Test.YtlbbbafehhdpnaaDoorBools
import Derived.Test.YtlbbbafehhdpnaaDoorMem
import Derived.Deep.DeepCutAuto
namespace Go.Proofs.YtlbbbafehhdpnaaDoor
open Go.RowKit
set_option linter.unusedVariables false
set_option linter.unusedSimpArgs false

theorem lw_getD (l : List Nat) (k : Nat) (h : k < l.length) : (lw l)[k]? = some (.int .u32 ((l.getD k 0 : Nat) : Int)) := by
  rw [lw_get l k h, List.getD_eq_getElem?_getD, List.getElem?_eq_getElem h]
  rfl
theorem lw_set (l : List Nat) (k v : Nat) : (lw l).toArray.setIfInBounds k (.int .u32 (v : Int)) = (lw (l.set k v)).toArray := by
  simp [lw, List.map_set]
theorem lw_zeros (n : Nat) : List.replicate n (Value.int .u32 0) = lw (List.replicate n 0) := by simp [lw]
/-- a row of limbs that is being filled. -/
structure LRow (g : Nat) (w wr : World) (o : List Nat) : Prop where
  blk : wr.heap[g]? = some (.cells (lw o).toArray 25 (0, 0))
  bel : Below g w wr
theorem LRow.set {g : Nat} {w wr : World} {o : List Nat} (h : LRow g w wr o) (hg : g ≤ w.heap.size) (k v : Nat) : LRow g w (wr.setCell ⟨g, k, none⟩ (.int .u32 (v : Int))) (o.set k v) :=
  ⟨by rw [← lw_set]; exact set_blk h.blk k _, h.bel.trans (Fr.below (S := fun b => b = g) ((Fr.refl _ wr).setCell ⟨g, k, none⟩ _ (.inl rfl)) (Nat.le_trans hg h.bel.size) (fun b hb => by omega))⟩
theorem LRow.cell {g : Nat} {w wr : World} {o : List Nat} (h : LRow g w wr o) (k : Nat) (hk : k < o.length) : wr.cell? ⟨g, k, none⟩ = some (.int .u32 ((o.getD k 0 : Nat) : Int)) ∧ wr.frozen? ⟨g, k, none⟩ = false :=
  ⟨(cell_of_blk h.blk k).trans (by rw [List.getElem?_toArray]; exact lw_getD o k hk), frozen_of_blk h.blk k⟩
theorem LRow.rd {g : Nat} {w wr : World} {o : List Nat} (h : LRow g w wr o) : Rd wr 1 (some ⟨g, 0, none⟩) o.length (lw o) :=
  ⟨by rw [lw_length, Nat.mul_one], fun _ => ⟨g, 0, rfl, fun j u hu => by rw [Nat.zero_add, cell_of_blk h.blk, List.getElem?_toArray]; exact hu⟩⟩
theorem Rd.limb {w : World} {A : Option Addr} {n : Nat} {xs : List Nat} (h : Rd w 1 A n (lw xs)) (k : Nat) (hk : k < n) (hl : xs.length = n) : ∃ b off, A = some ⟨b, off, none⟩ ∧ w.cell? ⟨b, off + k, none⟩ = some (.int .u32 ((xs.getD k 0 : Nat) : Int)) := by
  obtain ⟨b, off, u, e, hu, hc⟩ := h.at_ hk
  rw [lw_getD xs k (by omega)] at hu
  obtain rfl := Option.some.inj hu
  exact ⟨b, off, e, hc⟩
theorem prod_int (x y : Nat) (hx : x < 4294967296) (hy : y < 4294967296) : 0 ≤ (x : Int) * (y : Int) ∧ (x : Int) * (y : Int) ≤ 18446744065119617025 ∧ ((x * y : Nat) : Int) = (x : Int) * (y : Int) := by
  have h1 : x * y ≤ 4294967295 * 4294967295 := Nat.mul_le_mul (by omega) (by omega)
  have e : ((x * y : Nat) : Int) = (x : Int) * (y : Int) := Int.natCast_mul x y
  rw [← e]
  exact ⟨by omega, by omega, rfl⟩
set_option maxRecDepth 100000 in
set_option maxHeartbeats 4000000 in
theorem mul_any (xs ys : List Nat) (A A2 : Option Addr) (n c n2 c2 : Nat) (w : World) (hl : xs.length = n) (hnc : n ≤ c) (hn : n ≤ 1099511627776) (hr : Rd w 1 A n (lw xs)) (hs : small xs) (hl2 : ys.length = n2) (hnc2 : n2 ≤ c2) (hn2 : n2 ≤ 1099511627776) (hr2 : Rd w 1 A2 n2 (lw ys)) (hs2 : small ys) :
    Calls Tryd.prog 12 #[.slice A n c, .slice A2 n2 c2] w fun e w' => ∃ v, e = .returned v ∧ w'.ownsRow w.heap.size 25 1 v (limbs (lv xs * lv ys)).length (lw (limbs (lv xs * lv ys))) ∧ Below w.heap.size w w' := by
  obtain ⟨i0, hi, hz0, hz1, hz2⟩ := info_parts info_u32
  have hN1 := norm_any xs A n c w hl hnc (by omega) hr hs
  have hN2 := fun W hW => norm_any ys A2 n2 c2 W hl2 hnc2 (by omega) (hr2.below hW) hs2
  have hX1 := limbs_small (lv xs)
  have hX2 := limbs_small (lv ys)
  have hXl1 : (limbs (lv xs)).length ≤ 1099511627776 := Nat.le_trans (limbs_length_le xs hs) (by omega)
  have hXl2 : (limbs (lv ys)).length ≤ 1099511627776 := Nat.le_trans (limbs_length_le ys hs2) (by omega)
  have hv1 := lv_limbs (lv xs)
  have hv2 := lv_limbs (lv ys)
  generalize limbs (lv xs) = X at *
  generalize limbs (lv ys) = Y at *
  rw [← hv1, ← hv2]
  have HN2 := Lib.hid hN2
  have HX := Lib.hid hX1
  have HY := Lib.hid hX2
  clear hN2 hv1 hv2 hX1 hX2 hr hs hr2 hs2
  go_enter Tryd.func12, Tryd.ntmps12
  go_upto_region 2 with (first | (go_at_call 39; refine hN1.mono ?_; clear hN1; rintro e w1 ⟨v1, rfl, ho1, hb1⟩; obtain ⟨A1, c1, rfl, _, hr1⟩ := ownsRow_form ho1; have hcall := HN2.out w1 hb1; have HR1 := Lib.hid hr1; clear ho1 hr1) | (go_at_call 39; refine hcall.mono ?_; clear hcall; rintro e w2 ⟨v2, rfl, ho2, hb2⟩; obtain ⟨A3, c3, rfl, _, hr3⟩ := ownsRow_form ho2; have HR3 := Lib.hid hr3; have HR2 := Lib.hid (HR1.out.below hb2); have hb12 := hb1.trans (hb2.mono hb1.size); clear ho2 hr3))
  have HB2 := Lib.hid hb12
  clear hb1 hb2 hb12 HR1
  go_wp2_with (at_make; refine make1 w2.heap.size w2 w2 rfl _ _ 22 rfl 25 i0 (.int .u32 0) 4 Tryd.underlying22 hi hz0 hz1 hz2 rfl (by decide) .i64 .i64 ((X.length : Int) + (Y.length : Int)) ((X.length : Int) + (Y.length : Int)) (X.length + Y.length) rfl rfl (by omega) (by omega) (by omega) _ rfl (Nat.le_refl _) (Below.refl _ _) ?_)
  intro w3 hown3 hb3 _
  have hblk := full_blk hown3
  rw [lw_zeros] at hblk
  have hl0 : LRow w2.heap.size w2 w3 (mulAll X Y 0) := ⟨hblk, hb3⟩
  have HL0 := Lib.hid hl0
  clear hown3 hb3 hblk hl0
  go_wp2_with fail
  go_loopw [23] (fun i wr => ∃ q : Nat, q ≤ X.length ∧ i = .int .i64 (q : Int) ∧ LRow w2.heap.size w2 wr (mulAll X Y q)) (fun i _ => X.length - (intOf i).toNat)
  case atStart => exact ⟨0, Nat.zero_le _, rfl, HL0.out⟩
  case round =>
    obtain ⟨q, hq, rfl, hst⟩ := hrel
    have hrows := rows_ok X Y HX.out HY.out q hq
    have hw := hrows.len
    by_cases hlt : q < X.length
    · obtain ⟨b1, o1, rfl, x0⟩ := (HR2.out.below hst.bel).limb q hlt rfl
      have hxs := getD_lt HX.out q
      have hmok := fun p hp => mul_ok (X.getD q 0) q Y (mulAll X Y q) hxs HY.out hrows.sm (by rw [hw]; omega) p hp
      have hnext : mulAll X Y (q + 1) = mulRow (X.getD q 0) q Y (mulAll X Y q) := rfl
      generalize X.getD q 0 = x at *
      generalize mulAll X Y q = o at *
      have HST := Lib.hid hst
      have HMOK := Lib.hid hmok
      have HNEXT := Lib.hid hnext
      clear hst hmok hnext hrows
      go_wp2_with fail
      go_loopw [8, 30] (fun cy j wr => ∃ p : Nat, p ≤ Y.length ∧ j = .int .i64 (p : Int) ∧ cy = .int .u64 ((mulSt x q Y o p).2 : Nat) ∧ LRow w2.heap.size w2 wr (mulSt x q Y o p).1) (fun _ j _ => Y.length - (intOf j).toNat)
      case atStart => exact ⟨0, Nat.zero_le _, rfl, rfl, HST.out⟩
      case round =>
        obtain ⟨p, hp, rfl, rfl, hst⟩ := hrel
        have hm := HMOK.out p hp
        by_cases hlt2 : p < Y.length
        · obtain ⟨b2, o2, rfl, y0⟩ := (HR3.out.below hst.bel).limb p hlt2 rfl
          have hys := getD_lt HY.out p
          have hml : q + p < (mulSt x q Y o p).1.length := by rw [hm.len, hw]; omega
          obtain ⟨z0, z1⟩ := hst.cell (q + p) hml
          have hzs := getD_lt hm.sm (q + p)
          have hcs := hm.carry
          have hnx : mulSt x q Y o (p + 1) = ((mulSt x q Y o p).1.set (q + p) (((mulSt x q Y o p).2 + (x * Y.getD p 0 + (mulSt x q Y o p).1.getD (q + p) 0)) % 4294967296), ((mulSt x q Y o p).2 + (x * Y.getD p 0 + (mulSt x q Y o p).1.getD (q + p) 0)) / 4294967296) := rfl
          obtain ⟨i1, i2, i3⟩ := prod_int x (Y.getD p 0) hxs hys
          have hlen2 := hm.len
          generalize Y.getD p 0 = y at *
          generalize (mulSt x q Y o p).1.getD (q + p) 0 = z at *
          generalize mulSt x q Y o p = st at *
          obtain ⟨t, cc⟩ := st
          simp only at hst hml z0 z1 hcs hnx hlen2
          have HST2 := Lib.hid hst
          have HNX := Lib.hid hnx
          clear hst hnx hm hlen2
          go_wp2_with fail
          have eN : ((cc + (x * y + z) : Nat) : Int) = (cc : Int) + ((x : Int) * (y : Int) + (z : Int)) := by rw [Int.natCast_add, Int.natCast_add, i3]
          generalize cc + (x * y + z) = N at *
          rw [← eN]
          go_roundw
          case rel =>
            refine ⟨p + 1, by omega, by go_num, by rw [HNX.out]; rfl, ?_⟩
            rw [HNX.out]
            exact HST2.out.set (Nat.le_refl _) (q + p) (N % 4294967296)
          case measure => simp [intOf]; omega
        · obtain rfl : p = Y.length := by omega
          have hml : q + Y.length < (mulSt x q Y o Y.length).1.length := by rw [hm.len, hw]; omega
          obtain ⟨z0, z1⟩ := hst.cell (q + Y.length) hml
          have hcs := hm.carry
          have hrow : mulRow x q Y o = (mulSt x q Y o Y.length).1.set (q + Y.length) (mulSt x q Y o Y.length).2 := rfl
          generalize (mulSt x q Y o Y.length).1.getD (q + Y.length) 0 = z at *
          generalize mulSt x q Y o Y.length = st at *
          obtain ⟨t, cc⟩ := st
          simp only at hst hml z0 z1 hcs hrow
          have HST2 := Lib.hid hst
          have HROW := Lib.hid hrow
          clear hst hrow hm
          go_wp2_with fail
          go_roundw
          case rel =>
            refine ⟨q + 1, by omega, by go_num, ?_⟩
            rw [HNEXT.out, HROW.out]
            exact HST2.out.set (Nat.le_refl _) (q + Y.length) cc
          case measure => simp [intOf]; omega
    · obtain rfl : q = X.length := by omega
      have hval := mul_val X Y HX.out HY.out
      have hrd := hst.rd
      have hsm := hrows.sm
      generalize mulAll X Y X.length = o at *
      have hnm := norm_any o (some ⟨w2.heap.size, 0, none⟩) o.length (X.length + Y.length) wr rfl (by omega) (by omega) hrd hsm
      rw [hval, hw] at hnm
      have HB := Lib.hid (HB2.out.trans (hst.bel.mono HB2.out.size))
      clear hval hrd hsm hrows hst
      go_wp2_with (go_at_call 39; refine hnm.mono ?_; clear hnm; rintro e w9 ⟨v9, rfl, ho9, hb9⟩)
      go_ret
      exact ⟨_, rfl, own_more ho9 HB.out.size, HB.out.trans (hb9.mono HB.out.size)⟩
end Go.Proofs.YtlbbbafehhdpnaaDoor
