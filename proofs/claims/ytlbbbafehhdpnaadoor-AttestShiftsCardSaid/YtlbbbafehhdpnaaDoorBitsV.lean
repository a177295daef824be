/- Contracts: numbers in groups of seven bits: Unvar and its reference; Same. -/
import Derived.Test.YtlbbbafehhdpnaaDoorBitsMore
namespace Go.Proofs.YtlbbbafehhdpnaaDoor
open Go.RowKit

theorem and127 (c : Int) (h0 : 0 ≤ c) (h1 : c ≤ 255) : bits .and .u8 c 127 = c % 128 := by
  rw [u8_and _ _ h0 (by omega) (by omega) (by omega)]
  have e : (127 : Int).toNat = 2 ^ 7 - 1 := by decide
  rw [e, Nat.and_two_pow_sub_one_eq_mod]
  omega

theorem unvar_any (xs : List Int) (A : Option Addr) (n c : Nat) (w : World) (hl : xs.length = n) (hn : n ≤ 9223372036854775807) (hr : Rd w 1 A n (bytes8 xs)) (hwf : ∀ x ∈ xs, 0 ≤ x ∧ x ≤ 255) :
    Calls Tryd.prog 44 #[.slice A n c] w fun e w' => e = .returned (.tuple #[.int .u64 (unv xs).1, .int .i64 (unv xs).2]) ∧ w = w' := by
  go_enter Tryd.func44, Tryd.ntmps44
  go_wp2_with fail
  go_loop [4, 9] (fun u i => ∃ k acc : Nat, k ≤ n ∧ k ≤ 9 ∧ i = .int .i64 k ∧ u = .int .u64 acc ∧ acc < 128 ^ k ∧ unv xs = unvGo (xs.drop k) k acc) (fun _ i => n - (intOf i).toNat)
  case atStart => exact ⟨0, 0, Nat.zero_le _, by omega, rfl, rfl, by decide, rfl⟩
  case round =>
    obtain ⟨k, acc, hk, hk9, rfl, rfl, hacc, hun⟩ := hrel
    have h9e : (128 : Nat) ^ 9 = 9223372036854775808 := by decide
    have hacc2 : acc < 9223372036854775808 := by
      have := Nat.pow_le_pow_right (show 0 < 128 by omega) hk9
      omega
    clear h9e
    have HU := Lib.hid hun; clear hun
    have HA := Lib.hid hacc; clear hacc
    by_cases hlt : k < n
    · obtain ⟨b1, o1, u1, rfl, hu1, hc1⟩ := hr.at_ hlt
      rw [bytes8_get xs k (by omega)] at hu1
      injection hu1 with hu1
      have hx := hwf xs[k] (List.getElem_mem _)
      have hd : xs.drop k = xs[k] :: xs.drop (k + 1) := List.drop_eq_getElem_cons (by omega)
      generalize hX : xs[k] = X at *
      subst hu1
      rw [hd] at HU
      have HD := Lib.hid hd
      clear hd hX hwf hr
      obtain ⟨hx0, hx1⟩ := hx
      have hand := and127 X hx0 hx1
      have go1 : unvGo (X :: xs.drop (k + 1)) k acc = if (k = 9 ∧ 1 < X) ∨ (X = 0 ∧ 0 < k) then (0, 0) else if X < 128 then (acc + (X % 128).toNat * 128 ^ k, k + 1) else unvGo (xs.drop (k + 1)) (k + 1) (acc + (X % 128).toNat * 128 ^ k) := by rw [unvGo]
      have GO := Lib.hid go1; clear go1
      have hpw : 2 ^ (7 * k) = 128 ^ k := by rw [Nat.pow_mul]
      have hov : ¬ ((k = 9 ∧ 1 < X) ∨ (X = 0 ∧ 0 < k)) → bits .or .u64 (acc : Int) (IntKind.u64.wrap (X % 128 * 2 ^ (7 * k))) = ((acc + (X % 128).toNat * 128 ^ k : Nat) : Int) ∧ acc + (X % 128).toNat * 128 ^ k ≤ 18446744073709551615 := by
        intro hc
        have hfit : acc + (X % 128).toNat * 128 ^ k < 18446744073709551616 := by
          by_cases h9 : k = 9
          · subst h9
            have : (X % 128).toNat ≤ 1 := by omega
            have h2 : (X % 128).toNat * 128 ^ 9 ≤ 1 * 128 ^ 9 := Nat.mul_le_mul_right _ this
            have e : (128 : Nat) ^ 9 = 9223372036854775808 := by decide
            rw [e] at h2 ⊢
            omega
          · exact Nat.lt_of_lt_of_le (unv_acc_lt acc k X HA.out) (Nat.le_trans (Nat.pow_le_pow_right (by omega) (show k + 1 ≤ 9 by omega)) (by decide))
        refine ⟨?_, by omega⟩
        obtain ⟨D, hD⟩ := Int.eq_ofNat_of_zero_le (show 0 ≤ X % 128 by omega)
        rw [hD, Int.toNat_natCast] at hfit ⊢
        have e1 : (D : Int) * 2 ^ (7 * k) = ((D * 128 ^ k : Nat) : Int) := by rw [← hpw, Int.natCast_mul]; simp
        rw [e1, IntKind.wrap_u64]
        have e2 : ((D * 128 ^ k : Nat) : Int) % 18446744073709551616 = ((D * 128 ^ k : Nat) : Int) := by
          generalize D * 128 ^ k = z at *
          omega
        rw [e2, u64_or_nat _ _ (by omega) (by omega)]
        congr 1
        have h3 := Nat.two_pow_add_eq_or_of_lt (show acc < 2 ^ (7 * k) by rw [hpw]; exact HA.out) D
        rw [Nat.or_comm, Nat.mul_comm, ← hpw, ← h3, Nat.add_comm]
      have HO := Lib.hid hov; clear hov hpw
      by_cases a1 : X < 128
      · by_cases a2 : 9 ≤ k
        · by_cases a3 : 1 < X
          · have hz : unv xs = (0, 0) := by rw [HU.out, GO.out, if_pos (Or.inl ⟨by omega, a3⟩)]
            rw [hz]
            go_wp2_with fail
            go_ret2
            exact ⟨rfl, rfl⟩
          · by_cases a4 : X ≤ 0
            · have hz : unv xs = (0, 0) := by rw [HU.out, GO.out, if_pos (Or.inr ⟨by omega, by omega⟩)]
              rw [hz]
              go_wp2_with fail
              go_ret2
              exact ⟨rfl, rfl⟩
            · have hc : ¬ ((k = 9 ∧ 1 < X) ∨ (X = 0 ∧ 0 < k)) := by omega
              have hz : unv xs = (acc + (X % 128).toNat * 128 ^ k, k + 1) := by rw [HU.out, GO.out, if_neg hc, if_pos a1]
              obtain ⟨ho1, ho2⟩ := HO.out hc
              have HZ := Lib.hid hz
              clear hz hc HO GO HU HA HD
              generalize hR : acc + (X % 128).toNat * 128 ^ k = R at *
              clear hR
              obtain rfl : X = 1 := by omega
              obtain rfl : k = 9 := by omega
              have e9 : IntKind.u64.wrap (1 % 128 * 2 ^ (7 * 9)) = 9223372036854775808 := by decide
              rw [e9] at ho1
              clear e9
              go_wp2_with fail
              go_ret2
              exact ⟨by rw [HZ.out]; rfl, rfl⟩
        · by_cases a3 : X ≤ 0
          · by_cases a4 : 0 < k
            · have hz : unv xs = (0, 0) := by rw [HU.out, GO.out, if_pos (Or.inr ⟨by omega, a4⟩)]
              rw [hz]
              go_wp2_with fail
              go_ret2
              exact ⟨rfl, rfl⟩
            · have hc : ¬ ((k = 9 ∧ 1 < X) ∨ (X = 0 ∧ 0 < k)) := by omega
              have hz : unv xs = (acc + (X % 128).toNat * 128 ^ k, k + 1) := by rw [HU.out, GO.out, if_neg hc, if_pos a1]
              obtain ⟨ho1, ho2⟩ := HO.out hc
              have HZ := Lib.hid hz
              clear hz hc HO GO HU HA HD
              generalize hR : acc + (X % 128).toNat * 128 ^ k = R at *
              clear hR
              obtain rfl : X = 0 := by omega
              obtain rfl : k = 0 := by omega
              have e9 : IntKind.u64.wrap (0 % 128 * 2 ^ (7 * 0)) = 0 := by decide
              rw [e9] at ho1
              clear e9
              rw [Nat.add_zero] at hc1
              go_wp2_with fail
              go_ret2
              exact ⟨by rw [HZ.out]; rfl, rfl⟩
          · have hc : ¬ ((k = 9 ∧ 1 < X) ∨ (X = 0 ∧ 0 < k)) := by omega
            have hz : unv xs = (acc + (X % 128).toNat * 128 ^ k, k + 1) := by rw [HU.out, GO.out, if_neg hc, if_pos a1]
            obtain ⟨ho1, ho2⟩ := HO.out hc
            have HZ := Lib.hid hz
            clear hz hc
            generalize acc + (X % 128).toNat * 128 ^ k = R at *
            go_wp2_with fail
            go_ret2
            exact ⟨by rw [HZ.out]; rfl, rfl⟩
      · by_cases a2 : 9 ≤ k
        · have hz : unv xs = (0, 0) := by rw [HU.out, GO.out, if_pos (Or.inl ⟨by omega, by omega⟩)]
          rw [hz]
          go_wp2_with fail
          go_ret2
          exact ⟨rfl, rfl⟩
        · have hc : ¬ ((k = 9 ∧ 1 < X) ∨ (X = 0 ∧ 0 < k)) := by omega
          have hz : unv xs = unvGo (xs.drop (k + 1)) (k + 1) (acc + (X % 128).toNat * 128 ^ k) := by rw [HU.out, GO.out, if_neg hc, if_neg a1]
          have hlt2 := unv_acc_lt acc k X HA.out
          obtain ⟨ho1, ho2⟩ := HO.out hc
          have HZ := Lib.hid hz
          have HL := Lib.hid hlt2
          clear hz hc hlt2
          generalize acc + (X % 128).toNat * 128 ^ k = R at *
          go_wp2_with fail
          go_round
          case rel => exact ⟨k + 1, R, by omega, by omega, by go_num, rfl, HL.out, HZ.out⟩
          case measure => simp [intOf]; omega
    · obtain rfl : k = n := by omega
      rw [List.drop_of_length_le (by omega)] at HU
      go_wp2_with fail
      go_ret2
      exact ⟨by rw [HU.out]; rfl, rfl⟩
end Go.Proofs.YtlbbbafehhdpnaaDoor
