/- A row of limbs that is written within a window: the block holds the row and, behind it, spare cells. -/
import Derived.Test.YtlbbbafehhdpnaaGreatDoorNatMul
import Derived.Test.YtlbbbafehhdpnaaGreatDoorLongMath
import Derived.Deep.DeepCutAuto
import Derived.Test.YtlbbbafehhdpnaaGreatDoorRows
import Derived.Test.YtlbbbafehhdpnaaGreatDoorMem
import Derived.Test.YtlbbbafehhdpnaaGreatDoorBitMath3
import Derived.BigQuiet
import Derived.Deep.QuietTactic
import Derived.Test.YtlbbbafehhdpnaaGreatDoorVarMath
import Derived.Laws.IdiomStrings
import Derived.Test.YtlbbbafehhdpnaaGreatDoorLimbMath
import Derived.Test.YtlbbbafehhdpnaaGreatDoorNatMath
namespace Go.Proofs.YtlbbbafehhdpnaaGreatDoor
open Go.RowKit
set_option linter.unusedVariables false
set_option linter.unusedSimpArgs false

theorem putWin_get (u x : List Nat) (j i : Nat) (hj : j ≤ u.length) (hi : i < x.length) : (putWin u j x).getD (j + i) 0 = x.getD i 0 := by
  have h : (u.take j).length = j := by rw [List.length_take]; omega
  rw [List.getD_eq_getElem?_getD, List.getD_eq_getElem?_getD, putWin, List.append_assoc, List.getElem?_append_right (by omega), h, Nat.add_sub_cancel_left, List.getElem?_append_left hi]
theorem putWin_set (u x : List Nat) (j i y : Nat) (hj : j ≤ u.length) (hi : i < x.length) : (putWin u j x).set (j + i) y = putWin u j (x.set i y) := by
  have h : (u.take j).length = j := by rw [List.length_take]; omega
  rw [putWin, putWin, List.append_assoc, List.set_append_right _ _ (by omega), h, Nat.add_sub_cancel_left, List.set_append_left _ _ hi, List.append_assoc, List.length_set]
theorem putWin_self (u : List Nat) (j n : Nat) (h : j + n + 1 ≤ u.length) : putWin u j (win u j n) = u := by
  rw [putWin, win_len u j n h, List.append_assoc, win, ← List.drop_drop, List.take_append_drop, List.take_append_drop]
theorem putWin_put (u x y : List Nat) (j : Nat) (hx : j + x.length ≤ u.length) (h : x.length = y.length) : putWin (putWin u j x) j y = putWin u j y := by
  rw [putWin, putWin_take _ _ _ (by omega), ← List.drop_drop, putWin_drop _ _ _ hx, ← h, List.drop_left, putWin, h]
theorem win_put (u x : List Nat) (j n : Nat) (hx : j + x.length ≤ u.length) (h : x.length = n + 1) : win (putWin u j x) j n = x := by
  rw [win, putWin_drop _ _ _ hx, ← h, List.take_left]

structure WRow (g : Nat) (tl : List Value) (w wr : World) (L : List Nat) : Prop where
  blk : wr.heap[g]? = some (.cells (lw L ++ tl).toArray 92 (0, 0))
  fr : Fr (fun b => b = g) w wr
theorem WRow.cell {g : Nat} {tl : List Value} {w wr : World} {L : List Nat} (h : WRow g tl w wr L) (k : Nat) (hk : k < L.length) : wr.cell? ⟨g, k, none⟩ = some (.int .u32 ((L.getD k 0 : Nat) : Int)) ∧ wr.frozen? ⟨g, k, none⟩ = false :=
  ⟨(cell_of_blk h.blk k).trans (by rw [List.getElem?_toArray, List.getElem?_append_left (by rw [lw_length]; exact hk)]; exact lw_getD L k hk), frozen_of_blk h.blk k⟩
theorem WRow.set {g : Nat} {tl : List Value} {w wr : World} {L : List Nat} (h : WRow g tl w wr L) (k v : Nat) (hk : k < L.length) : WRow g tl w (wr.setCell ⟨g, k, none⟩ (.int .u32 (v : Int))) (L.set k v) := by
  refine ⟨?_, h.fr.setCell ⟨g, k, none⟩ _ (.inl rfl)⟩
  rw [set_blk h.blk k]
  congr 2
  simp only [List.setIfInBounds_toArray]
  rw [List.set_append_left _ _ (by rw [lw_length]; exact hk)]
  simp [lw, List.map_set]
/-- an owned row that isn't empty is such a row. -/
theorem WRow.of {w : World} {B n : Nat} {v : Value} {L : List Nat} (h : w.ownsRow B 92 1 v n (lw L)) (hn : 0 < n) : ∃ g tl c, v = .slice (some ⟨g, 0, none⟩) n c ∧ n ≤ c ∧ B ≤ g ∧ g < w.heap.size ∧ n + tl.length = c ∧ c ≤ maxLen ∧ WRow g tl w w L := by
  rcases h.2 with ⟨rfl, h0⟩ | ⟨g, cap, cur, rfl, hb, hg, hnc, hm, hs, ht⟩
  · omega
  · refine ⟨g, cur.toList.drop n, cap, rfl, hnc, hb, (Array.getElem?_eq_some_iff.1 hg).1, ?_, hm, ?_, Fr.refl _ _⟩
    · rw [List.length_drop, Array.length_toList]; omega
    · rw [Nat.mul_one] at ht
      rw [← ht, List.take_append_drop, Array.toArray_toList]; exact hg
theorem WRow.own {w wr : World} {B g n c : Nat} {tl : List Value} {L : List Nat} (h : WRow g tl w wr L) (hB : B ≤ g) (hl : L.length = n) (hc : n + tl.length = c) (hm : c ≤ maxLen) : wr.ownsRow B 92 1 (.slice (some ⟨g, 0, none⟩) n c) n (lw L) := by
  refine ⟨by rw [lw_length]; omega, .inr ⟨g, c, _, rfl, hB, h.blk, by omega, hm, ?_, ?_⟩⟩
  · rw [List.size_toArray, List.length_append, lw_length]; omega
  · rw [Nat.mul_one]
    show List.take n (lw L ++ tl) = lw L
    rw [List.take_left' (by rw [lw_length]; exact hl)]
end Go.Proofs.YtlbbbafehhdpnaaGreatDoor

namespace Go.Proofs.YtlbbbafehhdpnaaGreatDoor
open Go.RowKit
set_option linter.unusedVariables false
set_option linter.unusedSimpArgs false

set_option maxRecDepth 100000 in
set_option maxHeartbeats 4000000 in
theorem take_any (L V : List Nat) (g j n c gs : Nat) (tl : List Value) (A2 : Option Addr) (c2 : Nat) (w : World) (hL : small L) (hV : small V) (hVl : V.length = n) (hgs : gs < 4294967296) (hj : j + n + 1 ≤ L.length) (hLn : L.length ≤ 1099511627776) (hnc : n + 1 ≤ c) (hnc2 : n ≤ c2) (hw : WRow g tl w w L) (hv : ∀ W, Fr (fun b => b = g) w W → Rd W 1 A2 n (lw V)) :
    Calls Tryz.prog 84 #[.slice (some ⟨g, j, none⟩) (n + 1 : Nat) c, .slice A2 n c2, .int .u64 (gs : Int)] w fun e w' => e = .returned (.bool (takeBelow gs V (win L j n))) ∧ WRow g tl w w' (putWin L j (takeRow gs V (win L j n))) := by
  have hwl := win_len L j n hj
  have hws := win_small hL j n
  have hok := fun k hk => take_ok gs V (win L j n) hgs hV hws (by omega) k hk
  have hps := putWin_self L j n hj
  have HV := Lib.hid hv
  have hl0 : WRow g tl w w (putWin L j (takeSt gs V (win L j n) 0).1) := by rw [takeSt, hps]; exact hw
  have HL0 := Lib.hid hl0
  have HS := Lib.hid hV
  have HOK := Lib.hid hok
  generalize win L j n = U at *
  clear hv hw hl0 hok hV
  go_enter Tryz.func84, Tryz.ntmps84
  go_wp2_with fail
  go_loopw [7, 14] (fun cy x wr => ∃ k : Nat, k ≤ n ∧ x = .int .i64 (k : Int) ∧ cy = .int .u64 ((takeSt gs V U k).2 : Nat) ∧ WRow g tl w wr (putWin L j (takeSt gs V U k).1)) (fun _ x _ => n - (intOf x).toNat)
  case atStart => exact ⟨0, Nat.zero_le _, rfl, rfl, HL0.out⟩
  case round =>
    obtain ⟨k, hk, rfl, rfl, hst⟩ := hrel
    have hg := HOK.out k (by omega)
    have hgl := hg.len
    have hpl := putWin_len L j (takeSt gs V U k).1 (by omega)
    by_cases hlt : k < n
    · obtain ⟨b1, o1, rfl, y0⟩ := (HV.out _ hst.fr).limb k hlt hVl
      have hys := getD_lt HS.out k
      have hnx : takeSt gs V U (k + 1) = ((takeSt gs V U k).1.set k (((takeSt gs V U k).1.getD k 0 + 4294967296 - (gs * V.getD k 0 + (takeSt gs V U k).2) % 4294967296) % 4294967296), (gs * V.getD k 0 + (takeSt gs V U k).2) / 4294967296 + (if (takeSt gs V U k).1.getD k 0 < (gs * V.getD k 0 + (takeSt gs V U k).2) % 4294967296 then 1 else 0)) := rfl
      have hzs := getD_lt hg.sm k
      obtain ⟨z0, z1⟩ := hst.cell (j + k) (by omega)
      rw [putWin_get L _ j k (by omega) (by omega)] at z0
      have hcs := hg.owed
      obtain ⟨i1, i2, i3⟩ := prod_int gs (V.getD k 0) hgs hys
      generalize V.getD k 0 = y at *
      generalize (takeSt gs V U k).1.getD k 0 = z at *
      generalize takeSt gs V U k = st at *
      obtain ⟨t, cc⟩ := st
      simp only at hst z0 z1 hcs hnx hgl hpl
      have hp := take_p gs y cc hgs hys hcs
      have eN : ((gs * y + cc : Nat) : Int) = (gs : Int) * (y : Int) + (cc : Int) := by rw [Int.natCast_add, i3]
      have HST := Lib.hid hst
      have HNX := Lib.hid hnx
      have HEN := Lib.hid eN
      clear hst hnx hg eN
      by_cases hlow : z < (gs * y + cc) % 4294967296
      · have hd : decide ((z : Int) < ((gs : Int) * (y : Int) + (cc : Int)) % 4294967296) = true := by rw [decide_eq_true_eq, ← HEN.out]; omega
        go_wp2_with fail
        refine ⟨⟨k + 1, by omega, by go_num, ?_, ?_⟩, by simp [intOf]; omega⟩
        · rw [HNX.out, ← HEN.out]
          simp only [if_pos hlow]
          first | rfl | (congr 1; omega)
        · rw [HNX.out, ← HEN.out]
          have := HST.out.set (j + k) ((z + 4294967296 - (gs * y + cc) % 4294967296) % 4294967296) (by omega)
          rw [putWin_set L t j k _ (by omega) (by omega)] at this
          generalize gs * y + cc = N at *
          rw [show (((z + 4294967296 - N % 4294967296) % 4294967296 : Nat) : Int) = ((z : Int) - (N : Int)) % 4294967296 by omega] at this
          exact this
      · have hd : decide ((z : Int) < ((gs : Int) * (y : Int) + (cc : Int)) % 4294967296) = false := by rw [decide_eq_false_iff_not, ← HEN.out]; omega
        go_wp2_with fail
        refine ⟨⟨k + 1, by omega, by go_num, ?_, ?_⟩, by simp [intOf]; omega⟩
        · rw [HNX.out, ← HEN.out]
          simp only [if_neg hlow]
          first | rfl | (congr 1; omega)
        · rw [HNX.out, ← HEN.out]
          have := HST.out.set (j + k) ((z + 4294967296 - (gs * y + cc) % 4294967296) % 4294967296) (by omega)
          rw [putWin_set L t j k _ (by omega) (by omega)] at this
          generalize gs * y + cc = N at *
          rw [show (((z + 4294967296 - N % 4294967296) % 4294967296 : Nat) : Int) = (z : Int) - (N : Int) % 4294967296 by omega] at this
          exact this
    · obtain rfl : k = n := by omega
      obtain ⟨z0, z1⟩ := hst.cell (j + k) (by omega)
      rw [putWin_get L _ j k (by omega) (by omega), hg.far k (Nat.le_refl _)] at z0
      have hzs := getD_lt hws k
      have hcs := hg.owed
      have hfin : takeRow gs V U = (takeSt gs V U k).1.set k ((U.getD k 0 + 4294967296 - (takeSt gs V U k).2) % 4294967296) := by rw [takeRow, hVl]
      have hbel : takeBelow gs V U = decide (U.getD k 0 < (takeSt gs V U k).2) := by rw [takeBelow, hVl]
      have hrow := fun y => putWin_set L (takeSt gs V U k).1 j k y (by omega) (by omega)
      generalize U.getD k 0 = z at *
      generalize takeSt gs V U k = st at *
      obtain ⟨t, cc⟩ := st
      simp only at hst z0 z1 hcs hgl hpl hfin hrow hbel
      have HFIN := Lib.hid hfin
      have HBEL := Lib.hid hbel
      have HR := Lib.hid hrow
      have HST := Lib.hid hst
      clear hst hg hfin hrow hbel
      go_wp2_with fail
      have hn := HST.out.set (j + k) ((z + 4294967296 - cc) % 4294967296) (by omega)
      rw [show (((z + 4294967296 - cc) % 4294967296 : Nat) : Int) = ((z : Int) - (cc : Int)) % 4294967296 by omega] at hn
      refine ⟨rfl, .bool (decide (z < cc)), by simp [results, Tryz.results84, go_sem], by rw [HBEL.out], ?_⟩
      rw [HFIN.out, ← HR.out]
      exact hn
end Go.Proofs.YtlbbbafehhdpnaaGreatDoor

namespace Go.Proofs.YtlbbbafehhdpnaaGreatDoor
open Go.RowKit
set_option linter.unusedVariables false
set_option linter.unusedSimpArgs false

set_option maxRecDepth 100000 in
set_option maxHeartbeats 4000000 in
theorem give_any (L V : List Nat) (g j n c : Nat) (tl : List Value) (A2 : Option Addr) (c2 : Nat) (w : World) (hL : small L) (hV : small V) (hVl : V.length = n) (hj : j + n + 1 ≤ L.length) (hLn : L.length ≤ 1099511627776) (hnc : n + 1 ≤ c) (hnc2 : n ≤ c2) (hw : WRow g tl w w L) (hv : ∀ W, Fr (fun b => b = g) w W → Rd W 1 A2 n (lw V)) :
    Calls Tryz.prog 85 #[.slice (some ⟨g, j, none⟩) (n + 1 : Nat) c, .slice A2 n c2] w fun e w' => (∃ v, e = .returned v) ∧ WRow g tl w w' (putWin L j (giveRow V (win L j n))) := by
  have hwl := win_len L j n hj
  have hws := win_small hL j n
  have hok := fun k hk => give_ok V (win L j n) hV hws (by omega) k hk
  have hps := putWin_self L j n hj
  have HV := Lib.hid hv
  have hl0 : WRow g tl w w (putWin L j (giveSt V (win L j n) 0).1) := by rw [giveSt, hps]; exact hw
  have HL0 := Lib.hid hl0
  have HS := Lib.hid hV
  have HOK := Lib.hid hok
  generalize win L j n = U at *
  clear hv hw hl0 hok hV
  go_enter Tryz.func85, Tryz.ntmps85
  go_wp2_with fail
  go_loopw [4, 9] (fun cy x wr => ∃ k : Nat, k ≤ n ∧ x = .int .i64 (k : Int) ∧ cy = .int .u64 ((giveSt V U k).2 : Nat) ∧ WRow g tl w wr (putWin L j (giveSt V U k).1)) (fun _ x _ => n - (intOf x).toNat)
  case atStart => exact ⟨0, Nat.zero_le _, rfl, rfl, HL0.out⟩
  case round =>
    obtain ⟨k, hk, rfl, rfl, hst⟩ := hrel
    have hg := HOK.out k (by omega)
    have hgl := hg.len
    have hpl := putWin_len L j (giveSt V U k).1 (by omega)
    by_cases hlt : k < n
    · obtain ⟨b1, o1, rfl, y0⟩ := (HV.out _ hst.fr).limb k hlt hVl
      have hys := getD_lt HS.out k
      have hnx : giveSt V U (k + 1) = ((giveSt V U k).1.set k (((giveSt V U k).2 + ((giveSt V U k).1.getD k 0 + V.getD k 0)) % 4294967296), ((giveSt V U k).2 + ((giveSt V U k).1.getD k 0 + V.getD k 0)) / 4294967296) := rfl
      have hzs := getD_lt hg.sm k
      obtain ⟨z0, z1⟩ := hst.cell (j + k) (by omega)
      rw [putWin_get L _ j k (by omega) (by omega)] at z0
      have hcs := hg.carry
      generalize V.getD k 0 = y at *
      generalize (giveSt V U k).1.getD k 0 = z at *
      generalize giveSt V U k = st at *
      obtain ⟨t, cc⟩ := st
      simp only at hst z0 z1 hcs hnx hgl hpl
      have HST := Lib.hid hst
      have HNX := Lib.hid hnx
      clear hst hnx hg
      go_wp2_with fail
      have eN : ((cc + (z + y) : Nat) : Int) = (cc : Int) + ((z : Int) + (y : Int)) := by rw [Int.natCast_add, Int.natCast_add]
      have hN : cc + (z + y) < 18446744073709551616 := by omega
      generalize cc + (z + y) = N at *
      rw [← eN]
      go_roundw
      case rel =>
        refine ⟨k + 1, by omega, by go_num, by rw [HNX.out]; rfl, ?_⟩
        rw [HNX.out]
        have := HST.out.set (j + k) (N % 4294967296) (by omega)
        rw [putWin_set L t j k _ (by omega) (by omega)] at this
        exact this
      case measure => simp [intOf]; omega
    · obtain rfl : k = n := by omega
      obtain ⟨z0, z1⟩ := hst.cell (j + k) (by omega)
      rw [putWin_get L _ j k (by omega) (by omega), hg.far k (Nat.le_refl _)] at z0
      have hzs := getD_lt hws k
      have hcs := hg.carry
      have hfin : giveRow V U = (giveSt V U k).1.set k ((U.getD k 0 + (giveSt V U k).2) % 4294967296) := by rw [giveRow, hVl]
      have hrow := fun y => putWin_set L (giveSt V U k).1 j k y (by omega) (by omega)
      generalize U.getD k 0 = z at *
      generalize giveSt V U k = st at *
      obtain ⟨t, cc⟩ := st
      simp only at hst z0 z1 hcs hgl hpl hfin hrow
      have HFIN := Lib.hid hfin
      have HR := Lib.hid hrow
      have HST := Lib.hid hst
      clear hst hg hfin hrow
      go_wp2_with fail
      refine ⟨rfl, .tuple #[], by simp [results, Tryz.results85, go_sem], ⟨_, rfl⟩, ?_⟩
      rw [HFIN.out, ← HR.out]
      have hn := HST.out.set (j + k) ((z + cc) % 4294967296) (by omega)
      rw [Int.natCast_emod, Int.natCast_add] at hn
      exact hn
end Go.Proofs.YtlbbbafehhdpnaaGreatDoor

namespace Go.Proofs.YtlbbbafehhdpnaaGreatDoor
set_option linter.unusedVariables false
set_option linter.unusedSimpArgs false
open Go.RowKit


end Go.Proofs.YtlbbbafehhdpnaaGreatDoor

namespace Go.Proofs.YtlbbbafehhdpnaaGreatDoor
set_option linter.unusedVariables false
set_option linter.unusedSimpArgs false
open Go.RowKit

theorem info_u8 : (Tryz.prog.info? 5).map (fun i => (i.zero, i.size, i.bytes)) = some (some (.int .u8 0), 1, 1) := by kernel_rfl
def bytes8 (l : List Int) : List Value := l.map (Value.int .u8)
theorem bytes8_append (a b : List Int) : bytes8 (a ++ b) = bytes8 a ++ bytes8 b := by simp [bytes8]
theorem bytes8_one (c : Int) : bytes8 [c] = [.int .u8 c] := rfl
theorem bytes8_length (l : List Int) : (bytes8 l).length = l.length := by simp [bytes8]
theorem bytes8_get (l : List Int) (k : Nat) (h : k < l.length) : (bytes8 l)[k]? = some (.int .u8 l[k]) := by simp [bytes8, h]

theorem or128 (y : Nat) : bits .or .u8 ((y : Int) % 256) 128 = ((y % 128 + 128 : Nat) : Int) := by
  rw [u8_or _ _ (by omega) (by omega) (by omega) (by omega)]
  have e : ((y : Int) % 256).toNat = 128 * (y / 128 % 2) + y % 128 := by omega
  have e2 : (128 : Int).toNat = 128 := rfl
  rw [e, e2]
  have h2 : 128 * (y / 128 % 2) + y % 128 ||| 128 = y % 128 + 128 := by
    have hlt : y % 128 < 2 ^ 7 := by omega
    rcases (show y / 128 % 2 = 0 ∨ y / 128 % 2 = 1 by omega) with h | h
    · rw [h]
      have h3 := Nat.two_pow_add_eq_or_of_lt hlt 1
      simp at h3 ⊢
      rw [Nat.or_comm, ← h3]; omega
    · rw [h]
      have h3 := Nat.two_pow_add_eq_or_of_lt hlt 1
      simp at h3 ⊢
      rw [h3, Nat.or_comm 128, Nat.or_assoc, Nat.or_self, Nat.or_comm, ← h3]; omega
  rw [h2]



end Go.Proofs.YtlbbbafehhdpnaaGreatDoor

namespace Go.Proofs.YtlbbbafehhdpnaaGreatDoor
open Go.RowKit
set_option linter.unusedVariables false
set_option linter.unusedSimpArgs false

def strOf (xs : List Int) : ByteArray := ⟨(xs.map fun x => UInt8.ofNat x.toNat).toArray⟩
theorem run_str {P : Program} {w : World} {A : Option Addr} {n c : Nat} {xs : List Int} (src dst e : TypeId) (hs : P.underlying src = some (.slice e)) (he : P.underlying e = some (.int .u8)) (hd : P.underlying dst = some .string)
    (hl : xs.length = n) (hr : Rd w 1 A n (bytes8 xs)) (hb : ∀ x ∈ xs, 0 ≤ x ∧ x ≤ 255) : (convert src dst (.slice A n c)).run P w = .ok (.string (strOf xs)) w := by
  rcases Nat.eq_zero_or_pos n with h0 | h0
  · subst h0
    obtain rfl : xs = [] := List.eq_nil_of_length_eq_zero hl
    cases A with
    | none => rw [run_convert_bytes_string w src dst e none 0 c hs he hd]; rfl
    | some a => exact run_convert_bytes_back w src dst e a c [] hs he hd (fun j hj => by simp at hj)
  · obtain ⟨b, off, rfl, hc⟩ := hr.2 h0
    have h1 := run_convert_bytes_back (P := P) w src dst e ⟨b, off, none⟩ c (xs.map fun x => UInt8.ofNat x.toNat) hs he hd (fun j hj => by
      have hj' : j < xs.length := by simpa using hj
      have hm := hb xs[j] (List.getElem_mem _)
      rw [addr_add_none, hc j _ (bytes8_get xs j hj')]
      simp only [List.getElem_map]
      congr 2
      rw [UInt8.toNat_ofNat']
      omega)
    rw [List.length_map, hl] at h1
    exact h1
end Go.Proofs.YtlbbbafehhdpnaaGreatDoor

namespace Go.Proofs.YtlbbbafehhdpnaaGreatDoor
open Go.RowKit
set_option linter.unusedVariables false
set_option linter.unusedSimpArgs false

/-- bytes as cells. -/
def by8 (l : List Nat) : List Value := l.map fun (u : Nat) => Value.int .u8 (u : Int)
theorem by8_append (a b : List Nat) : by8 (a ++ b) = by8 a ++ by8 b := by simp [by8]
theorem by8_length (l : List Nat) : (by8 l).length = l.length := by simp [by8]
theorem by8_take (l : List Nat) (k : Nat) : (by8 l).take k = by8 (l.take k) := by simp [by8, List.map_take]
theorem by8_getD (l : List Nat) (k : Nat) (h : k < l.length) : (by8 l)[k]? = some (.int .u8 ((l.getD k 0 : Nat) : Int)) := by
  unfold by8
  rw [List.getElem?_map, List.getElem?_eq_getElem h, List.getD_eq_getElem?_getD, List.getElem?_eq_getElem h]
  rfl
theorem one8 (l : List Nat) : ∀ u ∈ by8 l, u.oneCell' = true := by
  intro u hu
  obtain ⟨x, _, rfl⟩ := List.mem_map.1 hu
  rfl
theorem by8_bytes (l : List Nat) : by8 l = bytes8 (l.map fun (u : Nat) => (u : Int)) := by simp [by8, bytes8]
theorem Rd.byte {w : World} {A : Option Addr} {n : Nat} {xs : List Nat} (h : Rd w 1 A n (by8 xs)) (k : Nat) (hk : k < n) : ∃ b off, A = some ⟨b, off, none⟩ ∧ w.cell? ⟨b, off + k, none⟩ = some (.int .u8 ((xs.getD k 0 : Nat) : Int)) := by
  obtain ⟨b, off, u, e, hu, hc⟩ := h.at_ hk
  have hl : k < xs.length := by have := h.1; rw [by8_length] at this; omega
  rw [by8_getD xs k hl] at hu
  injection hu with hu
  subst hu
  exact ⟨b, off, e, hc⟩

theorem quad_cells (X : Nat) (h : X < 4294967296) : by8 (quad X) = [.int .u8 ((X : Int) % 256), .int .u8 ((X : Int) / 256 % 256), .int .u8 ((X : Int) / 65536 % 256), .int .u8 ((X : Int) / 16777216)] := by
  have e : X / 16777216 % 256 = X / 16777216 := Nat.mod_eq_of_lt (by omega)
  simp only [by8, quad, List.map_cons, List.map_nil, e]
  rfl
theorem lpack_len (L : List Nat) (k n : Nat) (hl : L.length = n) (hk : k ≤ n) : (quads (L.take k)).length = 4 * k := by rw [quads_len, List.length_take]; omega

set_option maxRecDepth 100000 in
set_option maxHeartbeats 4000000 in
theorem lpack_any (xs : List Nat) (A : Option Addr) (n c : Nat) (w : World) (hl : xs.length = n) (hnc : n ≤ c) (hn : n ≤ 1000000000000) (hr : Rd w 1 A n (lw xs)) (hs : small xs) :
    Calls Tryz.prog 51 #[.slice A n c] w fun e w' => ∃ A' c', e = .returned (.slice A' (byts (lv xs)).length c') ∧ (byts (lv xs)).length ≤ c' ∧ (byts (lv xs)).length ≤ 4 * n ∧ Rd w' 1 A' (byts (lv xs)).length (by8 (byts (lv xs))) ∧ Below w.heap.size w w' := by
  obtain ⟨i0, hi, hz0, hz1, hz2⟩ := info_parts info_u8
  have hcut := cut_any xs A n c w hl hnc (by omega) hr hs
  have hL := limbs_small (lv xs)
  have hlv := lv_limbs (lv xs)
  generalize lv xs = N at *
  obtain ⟨L, hLe⟩ : ∃ L, limbs N = L := ⟨_, rfl⟩
  rw [hLe] at hcut hL hlv
  have hbq := bv_quads L hL
  rw [hlv] at hbq
  have hqs := quads_small L
  have HBQ := Lib.hid hbq
  have HQS := Lib.hid hqs
  have HL := Lib.hid hL
  clear hlv hbq hqs hLe
  go_enter Tryz.func51, Tryz.ntmps51
  go_upto_region 3 with (go_at_call 52; refine hcut.mono ?_; clear hcut; rintro e w' ⟨k, rfl, hk, htk, hw⟩; obtain rfl := hw)
  have hrk := hr.take hk
  rw [lw_take, htk] at hrk
  have hkl : L.length = k := by rw [← htk, List.length_take]; omega
  have HR := Lib.hid hrk
  have HKL := Lib.hid hkl
  clear hrk htk hr hs hkl
  go_loopw [3, 9] (fun b i wr => ∃ q : Nat, q ≤ k ∧ i = .int .i64 (q : Int) ∧ wr.ownsRow w.heap.size 5 1 b (4 * q) (by8 (quads (L.take q))) ∧ Below w.heap.size w wr) (fun _ i _ => k - (intOf i).toNat)
  case atStart => exact ⟨0, Nat.zero_le _, rfl, World.ownsRow_nil _ _ _ _, Below.refl _ _⟩
  case round =>
    obtain ⟨q, hq, rfl, hown, hb⟩ := hrel
    by_cases hlt : q < k
    · obtain ⟨b1, o1, rfl, x0⟩ := (HR.out.below hb).limb q hlt HKL.out
      have hx := getD_lt HL.out q
      have hnx := quads_take_succ L q (by rw [HKL.out]; exact hlt)
      generalize L.getD q 0 = X at *
      have hqd := quad_cells X hx
      have HQD := Lib.hid hqd
      have HNX := Lib.hid hnx
      clear hnx hqd
      go_wp2_with (at_builtin; refine appR w.heap.size w _ 5 rfl _ _ 110 rfl i0 (.int .u8 0) 1 Tryz.underlying110 hi hz0 hz1 hz2 rfl (by decide) _ (4 * q) _ rfl (Nat.le_refl _) (hown.alloc _) (hb.alloc hb.size _) (some ⟨wr.heap.size, 0, none⟩) 4 4 (by8 (quad X)) rfl (by rw [HQD.out]; exact rd_lit wr _ _) (one8 _) (by omega) ?_)
      intro v1 w1 hown1 hb1 _
      have hown2 : w1.ownsRow w.heap.size 5 1 v1 (4 * (q + 1)) (by8 (quads (L.take (q + 1)))) := by
        rw [HNX.out, by8_append]; exact hown1
      have HOWN2 := Lib.hid hown2
      clear hown hown1 hown2 hb
      go_wp2_with fail
      go_roundw
      case rel => exact ⟨q + 1, by omega, by go_num, HOWN2.out, hb1⟩
      case measure => simp [intOf]; omega
    · obtain rfl : q = k := by omega
      rw [List.take_of_length_le (Nat.le_of_eq HKL.out)] at hown
      obtain ⟨A2, c2, rfl, hc2, hrd⟩ := ownsRow_form hown
      have hBl := quads_len L
      rw [HKL.out] at hBl
      obtain ⟨P, hP⟩ : ∃ P, 4 * q = P := ⟨_, rfl⟩
      rw [hP] at hBl hrd hc2
      have HP := Lib.hid hP
      have hPb : P ≤ 4000000000000 := by omega
      have hPn : P ≤ 4 * n := by omega
      generalize quads L = Bs at *
      have HRD := Lib.hid hrd
      have HB := Lib.hid hb
      clear hown hrd hb HR HKL HL
      go_wp2_with fail
      rw [HP.out]
      go_loop [3] (fun a => ∃ m : Nat, m ≤ P ∧ a = .slice A2 m c2 ∧ bv (Bs.take m) = N) (fun a => match a with | .slice _ m _ => m | _ => 0)
      case atStart => exact ⟨P, Nat.le_refl _, rfl, by rw [List.take_of_length_le (by omega)]; exact HBQ.out⟩
      case round =>
        obtain ⟨m, hm, rfl, hv⟩ := hrel
        have HV := Lib.hid hv
        clear hv
        cases m with
        | zero =>
          go_wp2_with fail
          go_ret
          have h0 : N = 0 := by rw [← HV.out]; rfl
          subst h0
          rw [byts_zero]
          exact ⟨A2, c2, rfl, Nat.zero_le _, Nat.zero_le _, Rd.none_, HB.out⟩
        | succ m =>
          obtain ⟨b1, o1, rfl, x0⟩ := HRD.out.byte m (by omega)
          have hX := small8_getD HQS.out m
          have hc1' : wr.cell? ⟨b1, o1 + ((m + 1 : Nat) - 1 : Int).toNat, none⟩ = some (.int .u8 ((Bs.getD m 0 : Nat) : Int)) := by rw [← x0]; congr 2; omega
          obtain ⟨X, hXe⟩ : ∃ X, Bs.getD m 0 = X := ⟨_, rfl⟩
          rw [hXe] at x0 hc1' hX
          have HXE := Lib.hid hXe
          clear hXe
          by_cases hX0 : X ≤ 0
          · obtain rfl : X = 0 := by omega
            go_wp2_with fail
            go_round
            case rel => exact ⟨m, by omega, by first | rfl | (congr 1; omega), by rw [← HBQ.out]; exact bv_cut Bs m (by omega) HXE.out (HV.out.trans HBQ.out.symm)⟩
            case measure => simp
          · have hb : ((X : Int) == 0) = false := by rw [beq_eq_false_iff_ne]; omega
            go_wp2_with fail
            go_ret
            have hlast : ∀ j, m + 1 = j + 1 → Bs.getD j 0 ≠ 0 := by
              intro j hj
              have hjm : j = m := by omega
              rw [hjm, HXE.out]
              omega
            have hby := byts_cut Bs (m + 1) HQS.out (by omega) (HV.out.trans HBQ.out.symm) hlast
            rw [HBQ.out] at hby
            have hbl : (byts N).length = m + 1 := by rw [← hby, List.length_take]; omega
            rw [hbl]
            refine ⟨_, c2, rfl, by omega, by omega, ?_, HB.out⟩
            have := HRD.out.take hm
            rw [by8_take, hby] at this
            exact this
end Go.Proofs.YtlbbbafehhdpnaaGreatDoor
