/- Contract of package nat: give. -/
import Derived.Test.YtlbbbafehhdpnaaDoorLongRow
import Derived.Deep.DeepCutAuto
namespace Go.Proofs.YtlbbbafehhdpnaaDoor
open Go.RowKit
set_option linter.unusedVariables false
set_option linter.unusedSimpArgs false

set_option maxRecDepth 100000 in
set_option maxHeartbeats 4000000 in
theorem give_any (L V : List Nat) (g j n c : Nat) (tl : List Value) (A2 : Option Addr) (c2 : Nat) (w : World) (hL : small L) (hV : small V) (hVl : V.length = n) (hj : j + n + 1 ≤ L.length) (hLn : L.length ≤ 1099511627776) (hnc : n + 1 ≤ c) (hnc2 : n ≤ c2) (hw : WRow g tl w w L) (hv : ∀ W, Fr (fun b => b = g) w W → Rd W 1 A2 n (lw V)) :
    Calls Tryd.prog 60 #[.slice (some ⟨g, j, none⟩) (n + 1 : Nat) c, .slice A2 n c2] w fun e w' => (∃ v, e = .returned v) ∧ WRow g tl w w' (putWin L j (giveRow V (win L j n))) := by
  have hwl := win_len L j n hj
  have hws := win_small hL j n
  have hok := fun k hk => give_ok V (win L j n) hV hws (by omega) k hk
  have hps := putWin_self L j n hj
  have HV := Lib.hid hv
  have hl0 : WRow g tl w w (putWin L j (giveSt V (win L j n) 0).1) := by rw [giveSt, hps]; exact hw
  have HL0 := Lib.hid hl0
  have HS := Lib.hid hV
  have HOK := Lib.hid hok
  generalize win L j n = U at *
  clear hv hw hl0 hok hV
  go_enter Tryd.func60, Tryd.ntmps60
  go_wp2_with fail
  go_loopw [4, 9] (fun cy x wr => ∃ k : Nat, k ≤ n ∧ x = .int .i64 (k : Int) ∧ cy = .int .u64 ((giveSt V U k).2 : Nat) ∧ WRow g tl w wr (putWin L j (giveSt V U k).1)) (fun _ x _ => n - (intOf x).toNat)
  case atStart => exact ⟨0, Nat.zero_le _, rfl, rfl, HL0.out⟩
  case round =>
    obtain ⟨k, hk, rfl, rfl, hst⟩ := hrel
    have hg := HOK.out k (by omega)
    have hgl := hg.len
    have hpl := putWin_len L j (giveSt V U k).1 (by omega)
    by_cases hlt : k < n
    · obtain ⟨b1, o1, rfl, y0⟩ := (HV.out _ hst.fr).limb k hlt hVl
      have hys := getD_lt HS.out k
      have hnx : giveSt V U (k + 1) = ((giveSt V U k).1.set k (((giveSt V U k).2 + ((giveSt V U k).1.getD k 0 + V.getD k 0)) % 4294967296), ((giveSt V U k).2 + ((giveSt V U k).1.getD k 0 + V.getD k 0)) / 4294967296) := rfl
      have hzs := getD_lt hg.sm k
      obtain ⟨z0, z1⟩ := hst.cell (j + k) (by omega)
      rw [putWin_get L _ j k (by omega) (by omega)] at z0
      have hcs := hg.carry
      generalize V.getD k 0 = y at *
      generalize (giveSt V U k).1.getD k 0 = z at *
      generalize giveSt V U k = st at *
      obtain ⟨t, cc⟩ := st
      simp only at hst z0 z1 hcs hnx hgl hpl
      have HST := Lib.hid hst
      have HNX := Lib.hid hnx
      clear hst hnx hg
      go_wp2_with fail
      have eN : ((cc + (z + y) : Nat) : Int) = (cc : Int) + ((z : Int) + (y : Int)) := by rw [Int.natCast_add, Int.natCast_add]
      have hN : cc + (z + y) < 18446744073709551616 := by omega
      generalize cc + (z + y) = N at *
      rw [← eN]
      go_roundw
      case rel =>
        refine ⟨k + 1, by omega, by go_num, by rw [HNX.out]; rfl, ?_⟩
        rw [HNX.out]
        have := HST.out.set (j + k) (N % 4294967296) (by omega)
        rw [putWin_set L t j k _ (by omega) (by omega)] at this
        exact this
      case measure => simp [intOf]; omega
    · obtain rfl : k = n := by omega
      obtain ⟨z0, z1⟩ := hst.cell (j + k) (by omega)
      rw [putWin_get L _ j k (by omega) (by omega), hg.far k (Nat.le_refl _)] at z0
      have hzs := getD_lt hws k
      have hcs := hg.carry
      have hfin : giveRow V U = (giveSt V U k).1.set k ((U.getD k 0 + (giveSt V U k).2) % 4294967296) := by rw [giveRow, hVl]
      have hrow := fun y => putWin_set L (giveSt V U k).1 j k y (by omega) (by omega)
      generalize U.getD k 0 = z at *
      generalize giveSt V U k = st at *
      obtain ⟨t, cc⟩ := st
      simp only at hst z0 z1 hcs hgl hpl hfin hrow
      have HFIN := Lib.hid hfin
      have HR := Lib.hid hrow
      have HST := Lib.hid hst
      clear hst hg hfin hrow
      go_wp2_with fail
      refine ⟨rfl, .tuple #[], by simp [results, Tryd.results60, go_sem], ⟨_, rfl⟩, ?_⟩
      rw [HFIN.out, ← HR.out]
      have hn := HST.out.set (j + k) ((z + cc) % 4294967296) (by omega)
      rw [Int.natCast_emod, Int.natCast_add] at hn
      exact hn
end Go.Proofs.YtlbbbafehhdpnaaDoor
