/- Contract of package nat: take. -/
import Derived.Test.YtlbbbafehhdpnaaDoorLongRow
import Derived.Deep.DeepCutAuto
namespace Go.Proofs.YtlbbbafehhdpnaaDoor
open Go.RowKit
set_option linter.unusedVariables false
set_option linter.unusedSimpArgs false

set_option maxRecDepth 100000 in
set_option maxHeartbeats 4000000 in
theorem take_any (L V : List Nat) (g j n c gs : Nat) (tl : List Value) (A2 : Option Addr) (c2 : Nat) (w : World) (hL : small L) (hV : small V) (hVl : V.length = n) (hgs : gs < 4294967296) (hj : j + n + 1 ≤ L.length) (hLn : L.length ≤ 1099511627776) (hnc : n + 1 ≤ c) (hnc2 : n ≤ c2) (hw : WRow g tl w w L) (hv : ∀ W, Fr (fun b => b = g) w W → Rd W 1 A2 n (lw V)) :
    Calls Tryd.prog 59 #[.slice (some ⟨g, j, none⟩) (n + 1 : Nat) c, .slice A2 n c2, .int .u64 (gs : Int)] w fun e w' => e = .returned (.bool (takeBelow gs V (win L j n))) ∧ WRow g tl w w' (putWin L j (takeRow gs V (win L j n))) := by
  have hwl := win_len L j n hj
  have hws := win_small hL j n
  have hok := fun k hk => take_ok gs V (win L j n) hgs hV hws (by omega) k hk
  have hps := putWin_self L j n hj
  have HV := Lib.hid hv
  have hl0 : WRow g tl w w (putWin L j (takeSt gs V (win L j n) 0).1) := by rw [takeSt, hps]; exact hw
  have HL0 := Lib.hid hl0
  have HS := Lib.hid hV
  have HOK := Lib.hid hok
  generalize win L j n = U at *
  clear hv hw hl0 hok hV
  go_enter Tryd.func59, Tryd.ntmps59
  go_wp2_with fail
  go_loopw [7, 14] (fun cy x wr => ∃ k : Nat, k ≤ n ∧ x = .int .i64 (k : Int) ∧ cy = .int .u64 ((takeSt gs V U k).2 : Nat) ∧ WRow g tl w wr (putWin L j (takeSt gs V U k).1)) (fun _ x _ => n - (intOf x).toNat)
  case atStart => exact ⟨0, Nat.zero_le _, rfl, rfl, HL0.out⟩
  case round =>
    obtain ⟨k, hk, rfl, rfl, hst⟩ := hrel
    have hg := HOK.out k (by omega)
    have hgl := hg.len
    have hpl := putWin_len L j (takeSt gs V U k).1 (by omega)
    by_cases hlt : k < n
    · obtain ⟨b1, o1, rfl, y0⟩ := (HV.out _ hst.fr).limb k hlt hVl
      have hys := getD_lt HS.out k
      have hnx : takeSt gs V U (k + 1) = ((takeSt gs V U k).1.set k (((takeSt gs V U k).1.getD k 0 + 4294967296 - (gs * V.getD k 0 + (takeSt gs V U k).2) % 4294967296) % 4294967296), (gs * V.getD k 0 + (takeSt gs V U k).2) / 4294967296 + (if (takeSt gs V U k).1.getD k 0 < (gs * V.getD k 0 + (takeSt gs V U k).2) % 4294967296 then 1 else 0)) := rfl
      have hzs := getD_lt hg.sm k
      obtain ⟨z0, z1⟩ := hst.cell (j + k) (by omega)
      rw [putWin_get L _ j k (by omega) (by omega)] at z0
      have hcs := hg.owed
      obtain ⟨i1, i2, i3⟩ := prod_int gs (V.getD k 0) hgs hys
      generalize V.getD k 0 = y at *
      generalize (takeSt gs V U k).1.getD k 0 = z at *
      generalize takeSt gs V U k = st at *
      obtain ⟨t, cc⟩ := st
      simp only at hst z0 z1 hcs hnx hgl hpl
      have hp := take_p gs y cc hgs hys hcs
      have eN : ((gs * y + cc : Nat) : Int) = (gs : Int) * (y : Int) + (cc : Int) := by rw [Int.natCast_add, i3]
      have HST := Lib.hid hst
      have HNX := Lib.hid hnx
      have HEN := Lib.hid eN
      clear hst hnx hg eN
      by_cases hlow : z < (gs * y + cc) % 4294967296
      · have hd : decide ((z : Int) < ((gs : Int) * (y : Int) + (cc : Int)) % 4294967296) = true := by rw [decide_eq_true_eq, ← HEN.out]; omega
        go_wp2_with fail
        refine ⟨⟨k + 1, by omega, by go_num, ?_, ?_⟩, by simp [intOf]; omega⟩
        · rw [HNX.out, ← HEN.out]
          simp only [if_pos hlow]
          first | rfl | (congr 1; omega)
        · rw [HNX.out, ← HEN.out]
          have := HST.out.set (j + k) ((z + 4294967296 - (gs * y + cc) % 4294967296) % 4294967296) (by omega)
          rw [putWin_set L t j k _ (by omega) (by omega)] at this
          generalize gs * y + cc = N at *
          rw [show (((z + 4294967296 - N % 4294967296) % 4294967296 : Nat) : Int) = ((z : Int) - (N : Int)) % 4294967296 by omega] at this
          exact this
      · have hd : decide ((z : Int) < ((gs : Int) * (y : Int) + (cc : Int)) % 4294967296) = false := by rw [decide_eq_false_iff_not, ← HEN.out]; omega
        go_wp2_with fail
        refine ⟨⟨k + 1, by omega, by go_num, ?_, ?_⟩, by simp [intOf]; omega⟩
        · rw [HNX.out, ← HEN.out]
          simp only [if_neg hlow]
          first | rfl | (congr 1; omega)
        · rw [HNX.out, ← HEN.out]
          have := HST.out.set (j + k) ((z + 4294967296 - (gs * y + cc) % 4294967296) % 4294967296) (by omega)
          rw [putWin_set L t j k _ (by omega) (by omega)] at this
          generalize gs * y + cc = N at *
          rw [show (((z + 4294967296 - N % 4294967296) % 4294967296 : Nat) : Int) = (z : Int) - (N : Int) % 4294967296 by omega] at this
          exact this
    · obtain rfl : k = n := by omega
      obtain ⟨z0, z1⟩ := hst.cell (j + k) (by omega)
      rw [putWin_get L _ j k (by omega) (by omega), hg.far k (Nat.le_refl _)] at z0
      have hzs := getD_lt hws k
      have hcs := hg.owed
      have hfin : takeRow gs V U = (takeSt gs V U k).1.set k ((U.getD k 0 + 4294967296 - (takeSt gs V U k).2) % 4294967296) := by rw [takeRow, hVl]
      have hbel : takeBelow gs V U = decide (U.getD k 0 < (takeSt gs V U k).2) := by rw [takeBelow, hVl]
      have hrow := fun y => putWin_set L (takeSt gs V U k).1 j k y (by omega) (by omega)
      generalize U.getD k 0 = z at *
      generalize takeSt gs V U k = st at *
      obtain ⟨t, cc⟩ := st
      simp only at hst z0 z1 hcs hgl hpl hfin hrow hbel
      have HFIN := Lib.hid hfin
      have HBEL := Lib.hid hbel
      have HR := Lib.hid hrow
      have HST := Lib.hid hst
      clear hst hg hfin hrow hbel
      go_wp2_with fail
      have hn := HST.out.set (j + k) ((z + 4294967296 - cc) % 4294967296) (by omega)
      rw [show (((z + 4294967296 - cc) % 4294967296 : Nat) : Int) = ((z : Int) - (cc : Int)) % 4294967296 by omega] at hn
      refine ⟨rfl, .bool (decide (z < cc)), by simp [results, Tryd.results59, go_sem], by rw [HBEL.out], ?_⟩
      rw [HFIN.out, ← HR.out]
      exact hn
end Go.Proofs.YtlbbbafehhdpnaaDoor
