/- Contracts: the reference's Unvar; Pack, Unpack, their reference; the law's same. -/
import Derived.Test.YtffpjnabbmimgaaBitsV
import Derived.Deep.RegionWith
namespace Go.Proofs.Ytffpjnabbmimgaa
open Go.RowKit

/-- the number of groups of a prefix from place k on, as the reference's inner loop has it -/
theorem hn_drop (l : List Int) (k : Nat) (h : k < l.length) : hn (l.drop k) = (l[k] % 128).toNat + 128 * hn (l.drop (k + 1)) := by
  rw [List.drop_eq_getElem_cons h]
  rfl

set_option maxHeartbeats 1600000 in
theorem runvar_any (xs : List Int) (A : Option Addr) (n c : Nat) (w : World) (hl : xs.length = n) (hnc : n ≤ c) (hnm : n ≤ 9223372036854775807) (hr : Rd w 1 A n (bytes8 xs)) (hwf : ∀ x ∈ xs, 0 ≤ x ∧ x ≤ 255) :
    Calls Try.prog 29 #[.slice A n c] w fun e w' => e = .returned (.tuple #[.int .u64 (unv xs).1, .int .i64 (unv xs).2]) ∧ Below w.heap.size w w' := by
  go_enter Try.func29, Try.ntmps29
  go_wp2_with fail
  go_loop [4] (fun i => ∃ k : Nat, k ≤ n ∧ k ≤ 10 ∧ i = .int .i64 ((k : Int) + 1) ∧ ∀ j x, j < k → xs[j]? = some x → 128 ≤ x) (fun i => n + 1 - (intOf i).toNat)
  case atStart => exact ⟨0, Nat.zero_le _, by omega, rfl, fun j x hj => by omega⟩
  case round =>
    obtain ⟨k, hk, hk10, rfl, hall⟩ := hrel
    have HALL := Lib.hid hall; clear hall
    by_cases h10 : k < 10
    · by_cases hlt : k < n
      · obtain ⟨b1, o1, u1, rfl, hu1, hc1⟩ := hr.at_ hlt
        rw [bytes8_get xs k (by omega)] at hu1
        injection hu1 with hu1
        have hx := hwf xs[k] (List.getElem_mem _)
        have hkx : xs[k]? = some xs[k] := List.getElem?_eq_getElem (by omega)
        generalize hX : xs[k] = X at *
        subst hu1
        have HK := Lib.hid hkx
        have HX := Lib.hid hX
        have HW := Lib.hid hwf
        have HR := Lib.hid hr
        clear hkx hwf hr hX
        obtain ⟨hx0, hx1⟩ := hx
        by_cases ha : 128 ≤ X
        · go_wp2_with fail
          go_round
          case rel =>
            refine ⟨k + 1, by omega, by omega, by go_num, fun j x hj hx => ?_⟩
            by_cases he : j = k
            · subst he
              have := HK.out
              rw [hx] at this
              injection this with this
              omega
            · exact HALL.out j x (by omega) hx
          case measure => simp [intOf]; omega
        · -- the first group without the high bit
          have hs : shaped (xs.take (k + 1)) = true := shaped_take xs k (by omega) (fun j x hj hx => ⟨HALL.out j x hj hx, by have := HW.out x (List.mem_of_getElem? hx); omega⟩) (by rw [HX.out]; omega)
          have hlp : (xs.take (k + 1)).length = k + 1 := by rw [List.length_take]; omega
          have hfirst := unv_first (xs.take (k + 1)) (xs.drop (k + 1)) hs (by omega)
          rw [List.take_append_drop, hlp] at hfirst
          have hrp : Rd w 1 (some ⟨b1, o1, none⟩) (k + 1) (bytes8 (xs.take (k + 1))) := by
            have := HR.out.take (k := k + 1) (by omega)
            rwa [bytes8, ← List.map_take] at this
          have hpw : ∀ x ∈ xs.take (k + 1), 0 ≤ x ∧ x ≤ 255 := fun x hx => HW.out x (List.mem_of_mem_take hx)
          generalize xs.take (k + 1) = p at *
          have HF := Lib.hid hfirst
          have HRP := Lib.hid hrp
          have HPW := Lib.hid hpw
          clear hs hfirst hrp hpw HK HX HALL HW HR
          go_wp2_with fail
          go_loop [5, 6] (fun u i => ∃ j : Nat, j ≤ k + 1 ∧ i = .int .i64 ((j : Int) - 1) ∧ u = .int .u64 (hn (p.drop j) % 18446744073709551616 : Nat)) (fun _ i => (intOf i + 1).toNat)
          case atStart =>
            refine ⟨k + 1, by omega, by first | rfl | (congr 1; omega), ?_⟩
            rw [List.drop_of_length_le (by omega)]
            rfl
          case round =>
            obtain ⟨j, hj, rfl, rfl⟩ := hrel
            cases j with
            | succ j =>
              obtain ⟨b2, o2, u2, he, hu2, hc2⟩ := HRP.out.at_ (k := j) (by omega)
              injection he with he
              injection he with he1 he2
              subst he1; subst he2
              rw [bytes8_get p j (by omega)] at hu2
              injection hu2 with hu2
              have hx := HPW.out p[j] (List.getElem_mem _)
              have hd := hn_drop p j (by omega)
              generalize p[j] = Z at *
              subst hu2
              obtain ⟨hz0, hz1⟩ := hx
              have hlt2 : hn (p.drop (j + 1)) % 18446744073709551616 < 18446744073709551616 := Nat.mod_lt _ (by decide)
              have hmod : hn (p.drop j) % 18446744073709551616 = ((Z % 128).toNat + 128 * (hn (p.drop (j + 1)) % 18446744073709551616)) % 18446744073709551616 := by rw [hd]; omega
              generalize hn (p.drop (j + 1)) % 18446744073709551616 = U at *
              have HM := Lib.hid hmod
              clear hd hmod
              have hc2' : w.cell? ⟨b1, o1 + ((j + 1 : Nat) - 1 : Int).toNat, none⟩ = some (.int .u8 Z) := by rw [← hc2]; congr 2; omega
              go_wp2_with fail
              go_round
              case rel =>
                refine ⟨j, by omega, by go_num, ?_⟩
                rw [HM.out]
                congr 1
                simp only [IntKind.wrap_u64]
                omega
              case measure => simp [intOf]; try omega
            | zero =>
              have hlt2 : hn p % 18446744073709551616 < 18446744073709551616 := Nat.mod_lt _ (by decide)
              rw [List.drop_zero]
              generalize hn p % 18446744073709551616 = U at *
              go_wp2_with fail
              have c1 := fun W => rvarint_any U W hlt2
              have C1 := Lib.hid c1; clear c1
              by_cases hs : vint U = p
              · have hd : decide (vint U = p) = true := by simpa using hs
                have hz : unv xs = (U, k + 1) := by rw [HF.out, if_pos hs]
                have HZ := Lib.hid hz
                have HD := Lib.hid hd
                clear hz hs hd HF
                go_region_with (first | (go_at_call 31; refine (C1.out _).mono ?_; rintro e w1 ⟨v1, rfl, hown1, hb1⟩; obtain ⟨A1, cc1, rfl, _, hrd1⟩ := ownsRow_form hown1) | (go_at_call 30; refine (same_any (vint U) p A1 _ _ (k + 1) cc1 c w1 rfl hlp (by have := vint_length64 U hlt2; omega) (by omega) hrd1 (HRP.out.below ⟨hb1.os, hb1.tape, hb1.output, hb1.size, hb1.block⟩)).mono ?_; rw [HD.out]; rintro e w2 ⟨rfl, q, rfl⟩))
                all_goals
                  go_wp2_with fail
                  go_ret2
                  refine ⟨by rw [HZ.out]; first | rfl | simp, ?_⟩
                  exact ⟨hb1.os, hb1.tape, hb1.output, hb1.size, hb1.block⟩
              · have hd : decide (vint U = p) = false := by simpa using hs
                have hz : unv xs = (0, 0) := by rw [HF.out, if_neg hs]
                have HZ := Lib.hid hz
                have HD := Lib.hid hd
                clear hz hs hd HF
                go_region_with (first | (go_at_call 31; refine (C1.out _).mono ?_; rintro e w1 ⟨v1, rfl, hown1, hb1⟩; obtain ⟨A1, cc1, rfl, _, hrd1⟩ := ownsRow_form hown1) | (go_at_call 30; refine (same_any (vint U) p A1 _ _ (k + 1) cc1 c w1 rfl hlp (by have := vint_length64 U hlt2; omega) (by omega) hrd1 (HRP.out.below ⟨hb1.os, hb1.tape, hb1.output, hb1.size, hb1.block⟩)).mono ?_; rw [HD.out]; rintro e w2 ⟨rfl, q, rfl⟩))
                all_goals
                  go_wp2_with fail
                  go_ret2
                  refine ⟨by rw [HZ.out]; rfl, ?_⟩
                  exact ⟨hb1.os, hb1.tape, hb1.output, hb1.size, hb1.block⟩
      · have hz : unv xs = (0, 0) := unv_none xs fun j x _ hx => HALL.out j x (by have := (List.getElem?_eq_some_iff.1 hx).1; omega) hx
        have HZ := Lib.hid hz
        clear hz
        go_wp2_with fail
        go_ret2
        exact ⟨by rw [HZ.out]; rfl, Below.refl _ _⟩
    · have hz : unv xs = (0, 0) := unv_none xs fun j x hj hx => HALL.out j x (by omega) hx
      have HZ := Lib.hid hz
      clear hz
      go_wp2_with fail
      go_ret2
      exact ⟨by rw [HZ.out]; rfl, Below.refl _ _⟩
end Go.Proofs.Ytffpjnabbmimgaa
