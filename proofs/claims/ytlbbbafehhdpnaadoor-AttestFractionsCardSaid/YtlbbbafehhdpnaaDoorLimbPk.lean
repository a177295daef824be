/- Contracts of package limb: Pack, Unpack. -/
import Derived.Test.YtlbbbafehhdpnaaDoorLimbA
import Derived.Test.YtlbbbafehhdpnaaDoorByteMath
import Derived.Test.YtlbbbafehhdpnaaDoorBitsMore
import Derived.Test.YtlbbbafehhdpnaaDoorLongRow
namespace Go.Proofs.YtlbbbafehhdpnaaDoor
open Go.RowKit
set_option linter.unusedVariables false
set_option linter.unusedSimpArgs false

/-- bytes as cells. -/
def by8 (l : List Nat) : List Value := l.map fun (u : Nat) => Value.int .u8 (u : Int)
theorem by8_append (a b : List Nat) : by8 (a ++ b) = by8 a ++ by8 b := by simp [by8]
theorem by8_length (l : List Nat) : (by8 l).length = l.length := by simp [by8]
theorem by8_take (l : List Nat) (k : Nat) : (by8 l).take k = by8 (l.take k) := by simp [by8, List.map_take]
theorem by8_getD (l : List Nat) (k : Nat) (h : k < l.length) : (by8 l)[k]? = some (.int .u8 ((l.getD k 0 : Nat) : Int)) := by
  unfold by8
  rw [List.getElem?_map, List.getElem?_eq_getElem h, List.getD_eq_getElem?_getD, List.getElem?_eq_getElem h]
  rfl
theorem one8 (l : List Nat) : ∀ u ∈ by8 l, u.oneCell' = true := by
  intro u hu
  obtain ⟨x, _, rfl⟩ := List.mem_map.1 hu
  rfl
theorem by8_bytes (l : List Nat) : by8 l = bytes8 (l.map fun (u : Nat) => (u : Int)) := by simp [by8, bytes8]
theorem Rd.byte {w : World} {A : Option Addr} {n : Nat} {xs : List Nat} (h : Rd w 1 A n (by8 xs)) (k : Nat) (hk : k < n) : ∃ b off, A = some ⟨b, off, none⟩ ∧ w.cell? ⟨b, off + k, none⟩ = some (.int .u8 ((xs.getD k 0 : Nat) : Int)) := by
  obtain ⟨b, off, u, e, hu, hc⟩ := h.at_ hk
  have hl : k < xs.length := by have := h.1; rw [by8_length] at this; omega
  rw [by8_getD xs k hl] at hu
  injection hu with hu
  subst hu
  exact ⟨b, off, e, hc⟩

theorem quad_cells (X : Nat) (h : X < 4294967296) : by8 (quad X) = [.int .u8 ((X : Int) % 256), .int .u8 ((X : Int) / 256 % 256), .int .u8 ((X : Int) / 65536 % 256), .int .u8 ((X : Int) / 16777216)] := by
  have e : X / 16777216 % 256 = X / 16777216 := Nat.mod_eq_of_lt (by omega)
  simp only [by8, quad, List.map_cons, List.map_nil, e]
  rfl
theorem lpack_len (L : List Nat) (k n : Nat) (hl : L.length = n) (hk : k ≤ n) : (quads (L.take k)).length = 4 * k := by rw [quads_len, List.length_take]; omega

set_option maxRecDepth 100000 in
set_option maxHeartbeats 4000000 in
theorem lpack_any (xs : List Nat) (A : Option Addr) (n c : Nat) (w : World) (hl : xs.length = n) (hnc : n ≤ c) (hn : n ≤ 1000000000000) (hr : Rd w 1 A n (lw xs)) (hs : small xs) :
    Calls Tryd.prog 16 #[.slice A n c] w fun e w' => ∃ A' c', e = .returned (.slice A' (byts (lv xs)).length c') ∧ (byts (lv xs)).length ≤ c' ∧ (byts (lv xs)).length ≤ 4 * n ∧ Rd w' 1 A' (byts (lv xs)).length (by8 (byts (lv xs))) ∧ Below w.heap.size w w' := by
  obtain ⟨i0, hi, hz0, hz1, hz2⟩ := info_parts info_u8
  have hcut := cut_any xs A n c w hl hnc (by omega) hr hs
  have hL := limbs_small (lv xs)
  have hlv := lv_limbs (lv xs)
  generalize lv xs = N at *
  obtain ⟨L, hLe⟩ : ∃ L, limbs N = L := ⟨_, rfl⟩
  rw [hLe] at hcut hL hlv
  have hbq := bv_quads L hL
  rw [hlv] at hbq
  have hqs := quads_small L
  have HBQ := Lib.hid hbq
  have HQS := Lib.hid hqs
  have HL := Lib.hid hL
  clear hlv hbq hqs hLe
  go_enter Tryd.func16, Tryd.ntmps16
  go_upto_region 3 with (go_at_call 42; refine hcut.mono ?_; clear hcut; rintro e w' ⟨k, rfl, hk, htk, hw⟩; obtain rfl := hw)
  have hrk := hr.take hk
  rw [lw_take, htk] at hrk
  have hkl : L.length = k := by rw [← htk, List.length_take]; omega
  have HR := Lib.hid hrk
  have HKL := Lib.hid hkl
  clear hrk htk hr hs hkl
  go_loopw [3, 9] (fun b i wr => ∃ q : Nat, q ≤ k ∧ i = .int .i64 (q : Int) ∧ wr.ownsRow w.heap.size 5 1 b (4 * q) (by8 (quads (L.take q))) ∧ Below w.heap.size w wr) (fun _ i _ => k - (intOf i).toNat)
  case atStart => exact ⟨0, Nat.zero_le _, rfl, World.ownsRow_nil _ _ _ _, Below.refl _ _⟩
  case round =>
    obtain ⟨q, hq, rfl, hown, hb⟩ := hrel
    by_cases hlt : q < k
    · obtain ⟨b1, o1, rfl, x0⟩ := (HR.out.below hb).limb q hlt HKL.out
      have hx := getD_lt HL.out q
      have hnx := quads_take_succ L q (by rw [HKL.out]; exact hlt)
      generalize L.getD q 0 = X at *
      have hqd := quad_cells X hx
      have HQD := Lib.hid hqd
      have HNX := Lib.hid hnx
      clear hnx hqd
      go_wp2_with (at_builtin; refine appR w.heap.size w _ 5 rfl _ _ 35 rfl i0 (.int .u8 0) 1 Tryd.underlying35 hi hz0 hz1 hz2 rfl (by decide) _ (4 * q) _ rfl (Nat.le_refl _) (hown.alloc _) (hb.alloc hb.size _) (some ⟨wr.heap.size, 0, none⟩) 4 4 (by8 (quad X)) rfl (by rw [HQD.out]; exact rd_lit wr _ _) (one8 _) (by omega) ?_)
      intro v1 w1 hown1 hb1 _
      have hown2 : w1.ownsRow w.heap.size 5 1 v1 (4 * (q + 1)) (by8 (quads (L.take (q + 1)))) := by
        rw [HNX.out, by8_append]; exact hown1
      have HOWN2 := Lib.hid hown2
      clear hown hown1 hown2 hb
      go_wp2_with fail
      go_roundw
      case rel => exact ⟨q + 1, by omega, by go_num, HOWN2.out, hb1⟩
      case measure => simp [intOf]; omega
    · obtain rfl : q = k := by omega
      rw [List.take_of_length_le (Nat.le_of_eq HKL.out)] at hown
      obtain ⟨A2, c2, rfl, hc2, hrd⟩ := ownsRow_form hown
      have hBl := quads_len L
      rw [HKL.out] at hBl
      obtain ⟨P, hP⟩ : ∃ P, 4 * q = P := ⟨_, rfl⟩
      rw [hP] at hBl hrd hc2
      have HP := Lib.hid hP
      have hPb : P ≤ 4000000000000 := by omega
      have hPn : P ≤ 4 * n := by omega
      generalize quads L = Bs at *
      have HRD := Lib.hid hrd
      have HB := Lib.hid hb
      clear hown hrd hb HR HKL HL
      go_wp2_with fail
      rw [HP.out]
      go_loop [3] (fun a => ∃ m : Nat, m ≤ P ∧ a = .slice A2 m c2 ∧ bv (Bs.take m) = N) (fun a => match a with | .slice _ m _ => m | _ => 0)
      case atStart => exact ⟨P, Nat.le_refl _, rfl, by rw [List.take_of_length_le (by omega)]; exact HBQ.out⟩
      case round =>
        obtain ⟨m, hm, rfl, hv⟩ := hrel
        have HV := Lib.hid hv
        clear hv
        cases m with
        | zero =>
          go_wp2_with fail
          go_ret
          have h0 : N = 0 := by rw [← HV.out]; rfl
          subst h0
          rw [byts_zero]
          exact ⟨A2, c2, rfl, Nat.zero_le _, Nat.zero_le _, Rd.none_, HB.out⟩
        | succ m =>
          obtain ⟨b1, o1, rfl, x0⟩ := HRD.out.byte m (by omega)
          have hX := small8_getD HQS.out m
          have hc1' : wr.cell? ⟨b1, o1 + ((m + 1 : Nat) - 1 : Int).toNat, none⟩ = some (.int .u8 ((Bs.getD m 0 : Nat) : Int)) := by rw [← x0]; congr 2; omega
          obtain ⟨X, hXe⟩ : ∃ X, Bs.getD m 0 = X := ⟨_, rfl⟩
          rw [hXe] at x0 hc1' hX
          have HXE := Lib.hid hXe
          clear hXe
          by_cases hX0 : X ≤ 0
          · obtain rfl : X = 0 := by omega
            go_wp2_with fail
            go_round
            case rel => exact ⟨m, by omega, by first | rfl | (congr 1; omega), by rw [← HBQ.out]; exact bv_cut Bs m (by omega) HXE.out (HV.out.trans HBQ.out.symm)⟩
            case measure => simp
          · have hb : ((X : Int) == 0) = false := by rw [beq_eq_false_iff_ne]; omega
            go_wp2_with fail
            go_ret
            have hlast : ∀ j, m + 1 = j + 1 → Bs.getD j 0 ≠ 0 := by
              intro j hj
              have hjm : j = m := by omega
              rw [hjm, HXE.out]
              omega
            have hby := byts_cut Bs (m + 1) HQS.out (by omega) (HV.out.trans HBQ.out.symm) hlast
            rw [HBQ.out] at hby
            have hbl : (byts N).length = m + 1 := by rw [← hby, List.length_take]; omega
            rw [hbl]
            refine ⟨_, c2, rfl, by omega, by omega, ?_, HB.out⟩
            have := HRD.out.take hm
            rw [by8_take, hby] at this
            exact this
end Go.Proofs.YtlbbbafehhdpnaaDoor
