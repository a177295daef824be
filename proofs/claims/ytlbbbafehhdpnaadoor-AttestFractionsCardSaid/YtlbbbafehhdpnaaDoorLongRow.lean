/- A row of limbs that is written within a window: the block holds the row and, behind it, spare cells. -/
import Derived.Test.YtlbbbafehhdpnaaDoorNatMul
import Derived.Test.YtlbbbafehhdpnaaDoorLimbMath
import Derived.Deep.DeepCutAuto
namespace Go.Proofs.YtlbbbafehhdpnaaDoor
open Go.RowKit
set_option linter.unusedVariables false
set_option linter.unusedSimpArgs false

theorem putWin_get (u x : List Nat) (j i : Nat) (hj : j ≤ u.length) (hi : i < x.length) : (putWin u j x).getD (j + i) 0 = x.getD i 0 := by
  have h : (u.take j).length = j := by rw [List.length_take]; omega
  rw [List.getD_eq_getElem?_getD, List.getD_eq_getElem?_getD, putWin, List.append_assoc, List.getElem?_append_right (by omega), h, Nat.add_sub_cancel_left, List.getElem?_append_left hi]
theorem putWin_set (u x : List Nat) (j i y : Nat) (hj : j ≤ u.length) (hi : i < x.length) : (putWin u j x).set (j + i) y = putWin u j (x.set i y) := by
  have h : (u.take j).length = j := by rw [List.length_take]; omega
  rw [putWin, putWin, List.append_assoc, List.set_append_right _ _ (by omega), h, Nat.add_sub_cancel_left, List.set_append_left _ _ hi, List.append_assoc, List.length_set]
theorem putWin_self (u : List Nat) (j n : Nat) (h : j + n + 1 ≤ u.length) : putWin u j (win u j n) = u := by
  rw [putWin, win_len u j n h, List.append_assoc, win, ← List.drop_drop, List.take_append_drop, List.take_append_drop]
theorem putWin_put (u x y : List Nat) (j : Nat) (hx : j + x.length ≤ u.length) (h : x.length = y.length) : putWin (putWin u j x) j y = putWin u j y := by
  rw [putWin, putWin_take _ _ _ (by omega), ← List.drop_drop, putWin_drop _ _ _ hx, ← h, List.drop_left, putWin, h]
theorem win_put (u x : List Nat) (j n : Nat) (hx : j + x.length ≤ u.length) (h : x.length = n + 1) : win (putWin u j x) j n = x := by
  rw [win, putWin_drop _ _ _ hx, ← h, List.take_left]

structure WRow (g : Nat) (tl : List Value) (w wr : World) (L : List Nat) : Prop where
  blk : wr.heap[g]? = some (.cells (lw L ++ tl).toArray 25 (0, 0))
  fr : Fr (fun b => b = g) w wr
theorem WRow.cell {g : Nat} {tl : List Value} {w wr : World} {L : List Nat} (h : WRow g tl w wr L) (k : Nat) (hk : k < L.length) : wr.cell? ⟨g, k, none⟩ = some (.int .u32 ((L.getD k 0 : Nat) : Int)) ∧ wr.frozen? ⟨g, k, none⟩ = false :=
  ⟨(cell_of_blk h.blk k).trans (by rw [List.getElem?_toArray, List.getElem?_append_left (by rw [lw_length]; exact hk)]; exact lw_getD L k hk), frozen_of_blk h.blk k⟩
theorem WRow.set {g : Nat} {tl : List Value} {w wr : World} {L : List Nat} (h : WRow g tl w wr L) (k v : Nat) (hk : k < L.length) : WRow g tl w (wr.setCell ⟨g, k, none⟩ (.int .u32 (v : Int))) (L.set k v) := by
  refine ⟨?_, h.fr.setCell ⟨g, k, none⟩ _ (.inl rfl)⟩
  rw [set_blk h.blk k]
  congr 2
  simp only [List.setIfInBounds_toArray]
  rw [List.set_append_left _ _ (by rw [lw_length]; exact hk)]
  simp [lw, List.map_set]
/-- an owned row that isn't empty is such a row. -/
theorem WRow.of {w : World} {B n : Nat} {v : Value} {L : List Nat} (h : w.ownsRow B 25 1 v n (lw L)) (hn : 0 < n) : ∃ g tl c, v = .slice (some ⟨g, 0, none⟩) n c ∧ n ≤ c ∧ B ≤ g ∧ g < w.heap.size ∧ n + tl.length = c ∧ c ≤ maxLen ∧ WRow g tl w w L := by
  rcases h.2 with ⟨rfl, h0⟩ | ⟨g, cap, cur, rfl, hb, hg, hnc, hm, hs, ht⟩
  · omega
  · refine ⟨g, cur.toList.drop n, cap, rfl, hnc, hb, (Array.getElem?_eq_some_iff.1 hg).1, ?_, hm, ?_, Fr.refl _ _⟩
    · rw [List.length_drop, Array.length_toList]; omega
    · rw [Nat.mul_one] at ht
      rw [← ht, List.take_append_drop, Array.toArray_toList]; exact hg
theorem WRow.own {w wr : World} {B g n c : Nat} {tl : List Value} {L : List Nat} (h : WRow g tl w wr L) (hB : B ≤ g) (hl : L.length = n) (hc : n + tl.length = c) (hm : c ≤ maxLen) : wr.ownsRow B 25 1 (.slice (some ⟨g, 0, none⟩) n c) n (lw L) := by
  refine ⟨by rw [lw_length]; omega, .inr ⟨g, c, _, rfl, hB, h.blk, by omega, hm, ?_, ?_⟩⟩
  · rw [List.size_toArray, List.length_append, lw_length]; omega
  · rw [Nat.mul_one]
    show List.take n (lw L ++ tl) = lw L
    rw [List.take_left' (by rw [lw_length]; exact hl)]
end Go.Proofs.YtlbbbafehhdpnaaDoor

namespace Go.Proofs.YtlbbbafehhdpnaaDoor
open Go.RowKit
set_option linter.unusedVariables false
set_option linter.unusedSimpArgs false

set_option maxRecDepth 100000 in
set_option maxHeartbeats 4000000 in
theorem take_any (L V : List Nat) (g j n c gs : Nat) (tl : List Value) (A2 : Option Addr) (c2 : Nat) (w : World) (hL : small L) (hV : small V) (hVl : V.length = n) (hgs : gs < 4294967296) (hj : j + n + 1 ≤ L.length) (hLn : L.length ≤ 1099511627776) (hnc : n + 1 ≤ c) (hnc2 : n ≤ c2) (hw : WRow g tl w w L) (hv : ∀ W, Fr (fun b => b = g) w W → Rd W 1 A2 n (lw V)) :
    Calls Tryd.prog 59 #[.slice (some ⟨g, j, none⟩) (n + 1 : Nat) c, .slice A2 n c2, .int .u64 (gs : Int)] w fun e w' => e = .returned (.bool (takeBelow gs V (win L j n))) ∧ WRow g tl w w' (putWin L j (takeRow gs V (win L j n))) := by
  have hwl := win_len L j n hj
  have hws := win_small hL j n
  have hok := fun k hk => take_ok gs V (win L j n) hgs hV hws (by omega) k hk
  have hps := putWin_self L j n hj
  have HV := Lib.hid hv
  have hl0 : WRow g tl w w (putWin L j (takeSt gs V (win L j n) 0).1) := by rw [takeSt, hps]; exact hw
  have HL0 := Lib.hid hl0
  have HS := Lib.hid hV
  have HOK := Lib.hid hok
  generalize win L j n = U at *
  clear hv hw hl0 hok hV
  go_enter Tryd.func59, Tryd.ntmps59
  go_wp2_with fail
  go_loopw [7, 14] (fun cy x wr => ∃ k : Nat, k ≤ n ∧ x = .int .i64 (k : Int) ∧ cy = .int .u64 ((takeSt gs V U k).2 : Nat) ∧ WRow g tl w wr (putWin L j (takeSt gs V U k).1)) (fun _ x _ => n - (intOf x).toNat)
  case atStart => exact ⟨0, Nat.zero_le _, rfl, rfl, HL0.out⟩
  case round =>
    obtain ⟨k, hk, rfl, rfl, hst⟩ := hrel
    have hg := HOK.out k (by omega)
    have hgl := hg.len
    have hpl := putWin_len L j (takeSt gs V U k).1 (by omega)
    by_cases hlt : k < n
    · obtain ⟨b1, o1, rfl, y0⟩ := (HV.out _ hst.fr).limb k hlt hVl
      have hys := getD_lt HS.out k
      have hnx : takeSt gs V U (k + 1) = ((takeSt gs V U k).1.set k (((takeSt gs V U k).1.getD k 0 + 4294967296 - (gs * V.getD k 0 + (takeSt gs V U k).2) % 4294967296) % 4294967296), (gs * V.getD k 0 + (takeSt gs V U k).2) / 4294967296 + (if (takeSt gs V U k).1.getD k 0 < (gs * V.getD k 0 + (takeSt gs V U k).2) % 4294967296 then 1 else 0)) := rfl
      have hzs := getD_lt hg.sm k
      obtain ⟨z0, z1⟩ := hst.cell (j + k) (by omega)
      rw [putWin_get L _ j k (by omega) (by omega)] at z0
      have hcs := hg.owed
      obtain ⟨i1, i2, i3⟩ := prod_int gs (V.getD k 0) hgs hys
      generalize V.getD k 0 = y at *
      generalize (takeSt gs V U k).1.getD k 0 = z at *
      generalize takeSt gs V U k = st at *
      obtain ⟨t, cc⟩ := st
      simp only at hst z0 z1 hcs hnx hgl hpl
      have hp := take_p gs y cc hgs hys hcs
      have eN : ((gs * y + cc : Nat) : Int) = (gs : Int) * (y : Int) + (cc : Int) := by rw [Int.natCast_add, i3]
      have HST := Lib.hid hst
      have HNX := Lib.hid hnx
      have HEN := Lib.hid eN
      clear hst hnx hg eN
      by_cases hlow : z < (gs * y + cc) % 4294967296
      · have hd : decide ((z : Int) < ((gs : Int) * (y : Int) + (cc : Int)) % 4294967296) = true := by rw [decide_eq_true_eq, ← HEN.out]; omega
        go_wp2_with fail
        refine ⟨⟨k + 1, by omega, by go_num, ?_, ?_⟩, by simp [intOf]; omega⟩
        · rw [HNX.out, ← HEN.out]
          simp only [if_pos hlow]
          first | rfl | (congr 1; omega)
        · rw [HNX.out, ← HEN.out]
          have := HST.out.set (j + k) ((z + 4294967296 - (gs * y + cc) % 4294967296) % 4294967296) (by omega)
          rw [putWin_set L t j k _ (by omega) (by omega)] at this
          generalize gs * y + cc = N at *
          rw [show (((z + 4294967296 - N % 4294967296) % 4294967296 : Nat) : Int) = ((z : Int) - (N : Int)) % 4294967296 by omega] at this
          exact this
      · have hd : decide ((z : Int) < ((gs : Int) * (y : Int) + (cc : Int)) % 4294967296) = false := by rw [decide_eq_false_iff_not, ← HEN.out]; omega
        go_wp2_with fail
        refine ⟨⟨k + 1, by omega, by go_num, ?_, ?_⟩, by simp [intOf]; omega⟩
        · rw [HNX.out, ← HEN.out]
          simp only [if_neg hlow]
          first | rfl | (congr 1; omega)
        · rw [HNX.out, ← HEN.out]
          have := HST.out.set (j + k) ((z + 4294967296 - (gs * y + cc) % 4294967296) % 4294967296) (by omega)
          rw [putWin_set L t j k _ (by omega) (by omega)] at this
          generalize gs * y + cc = N at *
          rw [show (((z + 4294967296 - N % 4294967296) % 4294967296 : Nat) : Int) = (z : Int) - (N : Int) % 4294967296 by omega] at this
          exact this
    · obtain rfl : k = n := by omega
      obtain ⟨z0, z1⟩ := hst.cell (j + k) (by omega)
      rw [putWin_get L _ j k (by omega) (by omega), hg.far k (Nat.le_refl _)] at z0
      have hzs := getD_lt hws k
      have hcs := hg.owed
      have hfin : takeRow gs V U = (takeSt gs V U k).1.set k ((U.getD k 0 + 4294967296 - (takeSt gs V U k).2) % 4294967296) := by rw [takeRow, hVl]
      have hbel : takeBelow gs V U = decide (U.getD k 0 < (takeSt gs V U k).2) := by rw [takeBelow, hVl]
      have hrow := fun y => putWin_set L (takeSt gs V U k).1 j k y (by omega) (by omega)
      generalize U.getD k 0 = z at *
      generalize takeSt gs V U k = st at *
      obtain ⟨t, cc⟩ := st
      simp only at hst z0 z1 hcs hgl hpl hfin hrow hbel
      have HFIN := Lib.hid hfin
      have HBEL := Lib.hid hbel
      have HR := Lib.hid hrow
      have HST := Lib.hid hst
      clear hst hg hfin hrow hbel
      go_wp2_with fail
      have hn := HST.out.set (j + k) ((z + 4294967296 - cc) % 4294967296) (by omega)
      rw [show (((z + 4294967296 - cc) % 4294967296 : Nat) : Int) = ((z : Int) - (cc : Int)) % 4294967296 by omega] at hn
      refine ⟨rfl, .bool (decide (z < cc)), by simp [results, Tryd.results59, go_sem], by rw [HBEL.out], ?_⟩
      rw [HFIN.out, ← HR.out]
      exact hn
end Go.Proofs.YtlbbbafehhdpnaaDoor

namespace Go.Proofs.YtlbbbafehhdpnaaDoor
open Go.RowKit
set_option linter.unusedVariables false
set_option linter.unusedSimpArgs false

set_option maxRecDepth 100000 in
set_option maxHeartbeats 4000000 in
theorem give_any (L V : List Nat) (g j n c : Nat) (tl : List Value) (A2 : Option Addr) (c2 : Nat) (w : World) (hL : small L) (hV : small V) (hVl : V.length = n) (hj : j + n + 1 ≤ L.length) (hLn : L.length ≤ 1099511627776) (hnc : n + 1 ≤ c) (hnc2 : n ≤ c2) (hw : WRow g tl w w L) (hv : ∀ W, Fr (fun b => b = g) w W → Rd W 1 A2 n (lw V)) :
    Calls Tryd.prog 60 #[.slice (some ⟨g, j, none⟩) (n + 1 : Nat) c, .slice A2 n c2] w fun e w' => (∃ v, e = .returned v) ∧ WRow g tl w w' (putWin L j (giveRow V (win L j n))) := by
  have hwl := win_len L j n hj
  have hws := win_small hL j n
  have hok := fun k hk => give_ok V (win L j n) hV hws (by omega) k hk
  have hps := putWin_self L j n hj
  have HV := Lib.hid hv
  have hl0 : WRow g tl w w (putWin L j (giveSt V (win L j n) 0).1) := by rw [giveSt, hps]; exact hw
  have HL0 := Lib.hid hl0
  have HS := Lib.hid hV
  have HOK := Lib.hid hok
  generalize win L j n = U at *
  clear hv hw hl0 hok hV
  go_enter Tryd.func60, Tryd.ntmps60
  go_wp2_with fail
  go_loopw [4, 9] (fun cy x wr => ∃ k : Nat, k ≤ n ∧ x = .int .i64 (k : Int) ∧ cy = .int .u64 ((giveSt V U k).2 : Nat) ∧ WRow g tl w wr (putWin L j (giveSt V U k).1)) (fun _ x _ => n - (intOf x).toNat)
  case atStart => exact ⟨0, Nat.zero_le _, rfl, rfl, HL0.out⟩
  case round =>
    obtain ⟨k, hk, rfl, rfl, hst⟩ := hrel
    have hg := HOK.out k (by omega)
    have hgl := hg.len
    have hpl := putWin_len L j (giveSt V U k).1 (by omega)
    by_cases hlt : k < n
    · obtain ⟨b1, o1, rfl, y0⟩ := (HV.out _ hst.fr).limb k hlt hVl
      have hys := getD_lt HS.out k
      have hnx : giveSt V U (k + 1) = ((giveSt V U k).1.set k (((giveSt V U k).2 + ((giveSt V U k).1.getD k 0 + V.getD k 0)) % 4294967296), ((giveSt V U k).2 + ((giveSt V U k).1.getD k 0 + V.getD k 0)) / 4294967296) := rfl
      have hzs := getD_lt hg.sm k
      obtain ⟨z0, z1⟩ := hst.cell (j + k) (by omega)
      rw [putWin_get L _ j k (by omega) (by omega)] at z0
      have hcs := hg.carry
      generalize V.getD k 0 = y at *
      generalize (giveSt V U k).1.getD k 0 = z at *
      generalize giveSt V U k = st at *
      obtain ⟨t, cc⟩ := st
      simp only at hst z0 z1 hcs hnx hgl hpl
      have HST := Lib.hid hst
      have HNX := Lib.hid hnx
      clear hst hnx hg
      go_wp2_with fail
      have eN : ((cc + (z + y) : Nat) : Int) = (cc : Int) + ((z : Int) + (y : Int)) := by rw [Int.natCast_add, Int.natCast_add]
      have hN : cc + (z + y) < 18446744073709551616 := by omega
      generalize cc + (z + y) = N at *
      rw [← eN]
      go_roundw
      case rel =>
        refine ⟨k + 1, by omega, by go_num, by rw [HNX.out]; rfl, ?_⟩
        rw [HNX.out]
        have := HST.out.set (j + k) (N % 4294967296) (by omega)
        rw [putWin_set L t j k _ (by omega) (by omega)] at this
        exact this
      case measure => simp [intOf]; omega
    · obtain rfl : k = n := by omega
      obtain ⟨z0, z1⟩ := hst.cell (j + k) (by omega)
      rw [putWin_get L _ j k (by omega) (by omega), hg.far k (Nat.le_refl _)] at z0
      have hzs := getD_lt hws k
      have hcs := hg.carry
      have hfin : giveRow V U = (giveSt V U k).1.set k ((U.getD k 0 + (giveSt V U k).2) % 4294967296) := by rw [giveRow, hVl]
      have hrow := fun y => putWin_set L (giveSt V U k).1 j k y (by omega) (by omega)
      generalize U.getD k 0 = z at *
      generalize giveSt V U k = st at *
      obtain ⟨t, cc⟩ := st
      simp only at hst z0 z1 hcs hgl hpl hfin hrow
      have HFIN := Lib.hid hfin
      have HR := Lib.hid hrow
      have HST := Lib.hid hst
      clear hst hg hfin hrow
      go_wp2_with fail
      refine ⟨rfl, .tuple #[], by simp [results, Tryd.results60, go_sem], ⟨_, rfl⟩, ?_⟩
      rw [HFIN.out, ← HR.out]
      have hn := HST.out.set (j + k) ((z + cc) % 4294967296) (by omega)
      rw [Int.natCast_emod, Int.natCast_add] at hn
      exact hn
end Go.Proofs.YtlbbbafehhdpnaaDoor
