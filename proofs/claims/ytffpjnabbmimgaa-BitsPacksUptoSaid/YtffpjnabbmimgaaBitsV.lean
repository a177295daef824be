/- Contracts: numbers in groups of seven bits: more, Varint, Unvar and their references; Same. -/
import Derived.Test.YtffpjnabbmimgaaBitsA
import Derived.Test.YtffpjnabbmimgaaVarMath
import Derived.Test.YtffpjnabbmimgaaMem
namespace Go.Proofs.Ytffpjnabbmimgaa
open Go.RowKit

theorem info_u8 : (Try.prog.info? 5).map (fun i => (i.zero, i.size, i.bytes)) = some (some (.int .u8 0), 1, 1) := by kernel_rfl
def bytes8 (l : List Int) : List Value := l.map (Value.int .u8)
theorem bytes8_append (a b : List Int) : bytes8 (a ++ b) = bytes8 a ++ bytes8 b := by simp [bytes8]
theorem bytes8_one (c : Int) : bytes8 [c] = [.int .u8 c] := rfl
theorem bytes8_length (l : List Int) : (bytes8 l).length = l.length := by simp [bytes8]
theorem bytes8_get (l : List Int) (k : Nat) (h : k < l.length) : (bytes8 l)[k]? = some (.int .u8 l[k]) := by simp [bytes8, h]

theorem or128 (y : Nat) : bits .or .u8 ((y : Int) % 256) 128 = ((y % 128 + 128 : Nat) : Int) := by
  rw [u8_or _ _ (by omega) (by omega) (by omega) (by omega)]
  have e : ((y : Int) % 256).toNat = 128 * (y / 128 % 2) + y % 128 := by omega
  have e2 : (128 : Int).toNat = 128 := rfl
  rw [e, e2]
  have h2 : 128 * (y / 128 % 2) + y % 128 ||| 128 = y % 128 + 128 := by
    have hlt : y % 128 < 2 ^ 7 := by omega
    rcases (show y / 128 % 2 = 0 ∨ y / 128 % 2 = 1 by omega) with h | h
    · rw [h]
      have h3 := Nat.two_pow_add_eq_or_of_lt hlt 1
      simp at h3 ⊢
      rw [Nat.or_comm, ← h3]; omega
    · rw [h]
      have h3 := Nat.two_pow_add_eq_or_of_lt hlt 1
      simp at h3 ⊢
      rw [h3, Nat.or_comm 128, Nat.or_assoc, Nat.or_self, Nat.or_comm, ← h3]; omega
  rw [h2]

set_option maxRecDepth 10000 in
theorem more_any (B : Nat) (v : Value) (n : Nat) (xs : List Int) (u : Nat) (w : World) (hu : u < 18446744073709551616) (hown : w.ownsRow B 5 1 v n (bytes8 xs)) (hB : B ≤ w.heap.size) (hn : n + 10 ≤ 140737488355328) :
    Calls Try.prog 51 #[v, .int .u64 u] w fun e w' => ∃ v', e = .returned v' ∧ w'.ownsRow B 5 1 v' (n + (vint u).length) (bytes8 (xs ++ vint u)) ∧ Below B w w' := by
  obtain ⟨i0, hi, hz0, hz1, hz2⟩ := info_parts info_u8
  have hlen := vint_length64 u hu
  go_enter Try.func51, Try.ntmps51
  go_wp2_with fail
  go_loopw [0, 1] (fun b y wr => ∃ (Y : Nat) (ys : List Int), y = .int .u64 Y ∧ Y < 18446744073709551616 ∧ vint u = ys ++ vint Y ∧ wr.ownsRow B 5 1 b (n + ys.length) (bytes8 (xs ++ ys)) ∧ Below B w wr)
    (fun _ y _ => (intOf y).toNat)
  case atStart => exact ⟨u, [], rfl, hu, rfl, by simpa using hown, Below.refl _ _⟩
  case round =>
    clear hown
    obtain ⟨Y, ys, rfl, hY, hv, hown, hb⟩ := hrel
    have hys : ys.length + 1 ≤ 10 := by
      have := vint_pos Y
      have h2 := congrArg List.length hv
      rw [List.length_append] at h2
      omega
    have HV := Lib.hid hv; clear hv
    by_cases hbig : 128 ≤ Y
    · have hor := or128 Y
      have hvb := Lib.hid (vint_big Y hbig)
      go_wp2_with (at_builtin; refine app1 B w wr _ 5 rfl _ _ 39 rfl i0 (.int .u8 0) 1 Try.underlying39 hi hz0 hz1 hz2 rfl (by decide) _ (n + ys.length) _ rfl hB hown hb rfl rfl (by omega) ?_)
      intro v1 w1 hown1 hb1 _
      clear hown hb hor
      go_wp2_with fail
      go_roundw
      case rel =>
        refine ⟨Y / 128, ys ++ [((Y % 128 + 128 : Nat) : Int)], by go_num, by omega, ?_, ?_, hb1⟩
        · rw [HV.out, hvb.out]; simp
        · rw [← List.append_assoc, bytes8_append, bytes8_one, List.length_append, ← Nat.add_assoc]
          exact hown1
      case measure => simp [intOf]; omega
    · have hvs := Lib.hid (vint_small Y (by omega))
      go_wp2_with (at_builtin; refine app1 B w wr _ 5 rfl _ _ 39 rfl i0 (.int .u8 0) 1 Try.underlying39 hi hz0 hz1 hz2 rfl (by decide) _ (n + ys.length) _ rfl hB hown hb rfl rfl (by omega) ?_)
      intro v1 w1 hown1 hb1 _
      go_wp2_with fail
      go_ret
      refine ⟨_, rfl, ?_, hb1⟩
      rw [HV.out, hvs.out, ← List.append_assoc, bytes8_append, bytes8_one, List.length_append, ← Nat.add_assoc]
      exact hown1

theorem varint_any (u : Nat) (w : World) (hu : u < 18446744073709551616) :
    Calls Try.prog 27 #[.int .u64 u] w fun e w' => ∃ v', e = .returned v' ∧ w'.ownsRow w.heap.size 5 1 v' (vint u).length (bytes8 (vint u)) ∧ Below w.heap.size w w' := by
  have hm := Lib.hid (more_any w.heap.size (.slice none 0 0) 0 [] u w hu (World.ownsRow_nil _ _ _ _) (Nat.le_refl _) (by omega))
  go_enter Try.func27, Try.ntmps27
  go_wp2_with fail
  refine hm.out.mono ?_
  rintro e w1 ⟨v', rfl, hown, hb⟩
  simp only [Nat.zero_add, List.nil_append] at hown
  go_wp2_with fail
  go_ret
  exact ⟨_, rfl, hown, hb⟩

theorem rvarint_any (u : Nat) (w : World) (hu : u < 18446744073709551616) :
    Calls Try.prog 31 #[.int .u64 u] w fun e w' => ∃ v', e = .returned v' ∧ w'.ownsRow w.heap.size 5 1 v' (vint u).length (bytes8 (vint u)) ∧ Below w.heap.size w w' := by
  obtain ⟨i0, hi, hz0, hz1, hz2⟩ := info_parts info_u8
  have hlen := vint_length64 u hu
  go_enter Try.func31, Try.ntmps31
  go_wp2_with fail
  go_loopw [0, 3] (fun y b wr => ∃ (Y : Nat) (ys : List Int), y = .int .u64 Y ∧ Y < 18446744073709551616 ∧ vint u = ys ++ vint Y ∧ wr.ownsRow w.heap.size 5 1 b ys.length (bytes8 ys) ∧ Below w.heap.size w wr)
    (fun y _ _ => (intOf y).toNat)
  case atStart => exact ⟨u, [], rfl, hu, rfl, own_empty _ _ _ (Nat.le_refl _), (Below.refl _ _).alloc (Nat.le_refl _) _⟩
  case round =>
    obtain ⟨Y, ys, rfl, hY, hv, hown, hb⟩ := hrel
    have hys : ys.length + 1 ≤ 10 := by
      have := vint_pos Y
      have h2 := congrArg List.length hv
      rw [List.length_append] at h2
      omega
    have HV := Lib.hid hv; clear hv
    by_cases hbig : 128 ≤ Y
    · have hvb := Lib.hid (vint_big Y hbig)
      go_wp2_with (at_builtin; refine app1 w.heap.size w wr _ 5 rfl _ _ 39 rfl i0 (.int .u8 0) 1 Try.underlying39 hi hz0 hz1 hz2 rfl (by decide) _ ys.length _ rfl (Nat.le_refl _) hown hb rfl rfl (by omega) ?_)
      intro v1 w1 hown1 hb1 _
      clear hown hb
      go_wp2_with fail
      go_roundw
      case rel =>
        refine ⟨Y / 128, ys ++ [((Y % 128 + 128 : Nat) : Int)], by go_num, by omega, ?_, ?_, hb1⟩
        · rw [HV.out, hvb.out]; simp
        · rw [bytes8_append, bytes8_one, List.length_append]
          have e2 : (128 + (Y : Int) % 128) = ((Y % 128 + 128 : Nat) : Int) := by omega
          rw [e2] at hown1
          exact hown1
      case measure => simp [intOf]; omega
    · have hvs := Lib.hid (vint_small Y (by omega))
      go_wp2_with (at_builtin; refine app1 w.heap.size w wr _ 5 rfl _ _ 39 rfl i0 (.int .u8 0) 1 Try.underlying39 hi hz0 hz1 hz2 rfl (by decide) _ ys.length _ rfl (Nat.le_refl _) hown hb rfl rfl (by omega) ?_)
      intro v1 w1 hown1 hb1 _
      go_wp2_with fail
      go_ret
      refine ⟨_, rfl, ?_, hb1⟩
      rw [HV.out, hvs.out, bytes8_append, bytes8_one, List.length_append]
      exact hown1

theorem same_any (xs ys : List Int) (A1 A2 : Option Addr) (n1 n2 c1 c2 : Nat) (w : World) (h1 : xs.length = n1) (h2 : ys.length = n2) (hn : n1 ≤ 9223372036854775807) (hn2 : n2 ≤ 9223372036854775807) (hr1 : Rd w 1 A1 n1 (bytes8 xs)) (hr2 : Rd w 1 A2 n2 (bytes8 ys)) :
    Calls Try.prog 30 #[.slice A1 n1 c1, .slice A2 n2 c2] w fun e w' => e = .returned (.bool (decide (xs = ys))) ∧ ∃ q, w' = w.drewN q := by
  by_cases hne : n1 = n2
  · subst hne
    go_enter Try.func30, Try.ntmps30
    go_wp2_with fail
    go_loopw [13] (fun i wr => ∃ k : Nat, k ≤ n1 ∧ i = .int .i64 k ∧ xs.take k = ys.take k ∧ ∃ q, wr = w.drewN q) (fun i _ => n1 - (intOf i).toNat)
    case atStart => exact ⟨0, Nat.zero_le _, rfl, rfl, 0, rfl⟩
    case round =>
      obtain ⟨k, hk, rfl, htk, q, rfl⟩ := hrel
      have HT := Lib.hid htk; clear htk
      by_cases hlt : k < n1
      · obtain ⟨b1, o1, u1, rfl, hu1, hc1⟩ := hr1.at_ hlt
        obtain ⟨b2, o2, u2, rfl, hu2, hc2⟩ := hr2.at_ hlt
        rw [bytes8_get xs k (by omega)] at hu1
        rw [bytes8_get ys k (by omega)] at hu2
        injection hu1 with hu1; injection hu2 with hu2
        generalize hX : xs[k] = X at *
        generalize hY : ys[k] = Y at *
        subst hu1; subst hu2
        have HX := Lib.hid hX; have HY := Lib.hid hY
        clear hX hY hr1 hr2
        by_cases he : X = Y
        · subst he
          go_wp2_with fail
          go_quiet (fail)
          go_wp2_with fail
          go_roundw
          case rel =>
            refine ⟨k + 1, by omega, by go_num, ?_, q + nq, by first | rfl | rw [World.drewN_drewN]⟩
            rw [List.take_succ_eq_append_getElem (by omega), List.take_succ_eq_append_getElem (by omega), HT.out, HX.out, HY.out]
          case measure => simp [intOf]; omega
        · have hb : (X != Y) = true := by simpa using he
          go_wp2_with fail
          go_quiet (fail)
          go_wp2_with fail
          go_ret
          refine ⟨ret_bool ?_, q + nq, by first | rfl | rw [World.drewN_drewN]⟩
          symm
          rw [decide_eq_false_iff_not]
          intro h
          apply he
          rw [← HX.out, ← HY.out]
          simp [h]
      · obtain rfl : k = n1 := by omega
        go_wp2_with fail
        go_ret
        refine ⟨ret_bool ?_, _, rfl⟩
        have := HT.out
        rw [List.take_of_length_le (by omega), List.take_of_length_le (by omega)] at this
        simp [this]
  · have hb : ((n1 : Int) != (n2 : Int)) = true := by rw [bne_iff_ne]; omega
    go_enter Try.func30, Try.ntmps30
    go_wp2_with fail
    go_ret
    refine ⟨ret_bool ?_, 0, rfl⟩
    symm
    rw [decide_eq_false_iff_not]
    intro h
    rw [h] at h1
    omega

theorem and127 (c : Int) (h0 : 0 ≤ c) (h1 : c ≤ 255) : bits .and .u8 c 127 = c % 128 := by
  rw [u8_and _ _ h0 (by omega) (by omega) (by omega)]
  have e : (127 : Int).toNat = 2 ^ 7 - 1 := by decide
  rw [e, Nat.and_two_pow_sub_one_eq_mod]
  omega

theorem unvar_any (xs : List Int) (A : Option Addr) (n c : Nat) (w : World) (hl : xs.length = n) (hn : n ≤ 9223372036854775807) (hr : Rd w 1 A n (bytes8 xs)) (hwf : ∀ x ∈ xs, 0 ≤ x ∧ x ≤ 255) :
    Calls Try.prog 28 #[.slice A n c] w fun e w' => e = .returned (.tuple #[.int .u64 (unv xs).1, .int .i64 (unv xs).2]) ∧ w = w' := by
  go_enter Try.func28, Try.ntmps28
  go_wp2_with fail
  go_loop [4, 9] (fun u i => ∃ k acc : Nat, k ≤ n ∧ k ≤ 9 ∧ i = .int .i64 k ∧ u = .int .u64 acc ∧ acc < 128 ^ k ∧ unv xs = unvGo (xs.drop k) k acc) (fun _ i => n - (intOf i).toNat)
  case atStart => exact ⟨0, 0, Nat.zero_le _, by omega, rfl, rfl, by decide, rfl⟩
  case round =>
    obtain ⟨k, acc, hk, hk9, rfl, rfl, hacc, hun⟩ := hrel
    have h9e : (128 : Nat) ^ 9 = 9223372036854775808 := by decide
    have hacc2 : acc < 9223372036854775808 := by
      have := Nat.pow_le_pow_right (show 0 < 128 by omega) hk9
      omega
    clear h9e
    have HU := Lib.hid hun; clear hun
    have HA := Lib.hid hacc; clear hacc
    by_cases hlt : k < n
    · obtain ⟨b1, o1, u1, rfl, hu1, hc1⟩ := hr.at_ hlt
      rw [bytes8_get xs k (by omega)] at hu1
      injection hu1 with hu1
      have hx := hwf xs[k] (List.getElem_mem _)
      have hd : xs.drop k = xs[k] :: xs.drop (k + 1) := List.drop_eq_getElem_cons (by omega)
      generalize hX : xs[k] = X at *
      subst hu1
      rw [hd] at HU
      have HD := Lib.hid hd
      clear hd hX hwf hr
      obtain ⟨hx0, hx1⟩ := hx
      have hand := and127 X hx0 hx1
      have go1 : unvGo (X :: xs.drop (k + 1)) k acc = if (k = 9 ∧ 1 < X) ∨ (X = 0 ∧ 0 < k) then (0, 0) else if X < 128 then (acc + (X % 128).toNat * 128 ^ k, k + 1) else unvGo (xs.drop (k + 1)) (k + 1) (acc + (X % 128).toNat * 128 ^ k) := by rw [unvGo]
      have GO := Lib.hid go1; clear go1
      have hpw : 2 ^ (7 * k) = 128 ^ k := by rw [Nat.pow_mul]
      have hov : ¬ ((k = 9 ∧ 1 < X) ∨ (X = 0 ∧ 0 < k)) → bits .or .u64 (acc : Int) (IntKind.u64.wrap (X % 128 * 2 ^ (7 * k))) = ((acc + (X % 128).toNat * 128 ^ k : Nat) : Int) ∧ acc + (X % 128).toNat * 128 ^ k ≤ 18446744073709551615 := by
        intro hc
        have hfit : acc + (X % 128).toNat * 128 ^ k < 18446744073709551616 := by
          by_cases h9 : k = 9
          · subst h9
            have : (X % 128).toNat ≤ 1 := by omega
            have h2 : (X % 128).toNat * 128 ^ 9 ≤ 1 * 128 ^ 9 := Nat.mul_le_mul_right _ this
            have e : (128 : Nat) ^ 9 = 9223372036854775808 := by decide
            rw [e] at h2 ⊢
            omega
          · exact Nat.lt_of_lt_of_le (unv_acc_lt acc k X HA.out) (Nat.le_trans (Nat.pow_le_pow_right (by omega) (show k + 1 ≤ 9 by omega)) (by decide))
        refine ⟨?_, by omega⟩
        obtain ⟨D, hD⟩ := Int.eq_ofNat_of_zero_le (show 0 ≤ X % 128 by omega)
        rw [hD, Int.toNat_natCast] at hfit ⊢
        have e1 : (D : Int) * 2 ^ (7 * k) = ((D * 128 ^ k : Nat) : Int) := by rw [← hpw, Int.natCast_mul]; simp
        rw [e1, IntKind.wrap_u64]
        have e2 : ((D * 128 ^ k : Nat) : Int) % 18446744073709551616 = ((D * 128 ^ k : Nat) : Int) := by
          generalize D * 128 ^ k = z at *
          omega
        rw [e2, u64_or_nat _ _ (by omega) (by omega)]
        congr 1
        have h3 := Nat.two_pow_add_eq_or_of_lt (show acc < 2 ^ (7 * k) by rw [hpw]; exact HA.out) D
        rw [Nat.or_comm, Nat.mul_comm, ← hpw, ← h3, Nat.add_comm]
      have HO := Lib.hid hov; clear hov hpw
      by_cases a1 : X < 128
      · by_cases a2 : 9 ≤ k
        · by_cases a3 : 1 < X
          · have hz : unv xs = (0, 0) := by rw [HU.out, GO.out, if_pos (Or.inl ⟨by omega, a3⟩)]
            rw [hz]
            go_wp2_with fail
            go_ret2
            exact ⟨rfl, rfl⟩
          · by_cases a4 : X ≤ 0
            · have hz : unv xs = (0, 0) := by rw [HU.out, GO.out, if_pos (Or.inr ⟨by omega, by omega⟩)]
              rw [hz]
              go_wp2_with fail
              go_ret2
              exact ⟨rfl, rfl⟩
            · have hc : ¬ ((k = 9 ∧ 1 < X) ∨ (X = 0 ∧ 0 < k)) := by omega
              have hz : unv xs = (acc + (X % 128).toNat * 128 ^ k, k + 1) := by rw [HU.out, GO.out, if_neg hc, if_pos a1]
              obtain ⟨ho1, ho2⟩ := HO.out hc
              have HZ := Lib.hid hz
              clear hz hc HO GO HU HA HD
              generalize hR : acc + (X % 128).toNat * 128 ^ k = R at *
              clear hR
              obtain rfl : X = 1 := by omega
              obtain rfl : k = 9 := by omega
              have e9 : IntKind.u64.wrap (1 % 128 * 2 ^ (7 * 9)) = 9223372036854775808 := by decide
              rw [e9] at ho1
              clear e9
              go_wp2_with fail
              go_ret2
              exact ⟨by rw [HZ.out]; rfl, rfl⟩
        · by_cases a3 : X ≤ 0
          · by_cases a4 : 0 < k
            · have hz : unv xs = (0, 0) := by rw [HU.out, GO.out, if_pos (Or.inr ⟨by omega, a4⟩)]
              rw [hz]
              go_wp2_with fail
              go_ret2
              exact ⟨rfl, rfl⟩
            · have hc : ¬ ((k = 9 ∧ 1 < X) ∨ (X = 0 ∧ 0 < k)) := by omega
              have hz : unv xs = (acc + (X % 128).toNat * 128 ^ k, k + 1) := by rw [HU.out, GO.out, if_neg hc, if_pos a1]
              obtain ⟨ho1, ho2⟩ := HO.out hc
              have HZ := Lib.hid hz
              clear hz hc HO GO HU HA HD
              generalize hR : acc + (X % 128).toNat * 128 ^ k = R at *
              clear hR
              obtain rfl : X = 0 := by omega
              obtain rfl : k = 0 := by omega
              have e9 : IntKind.u64.wrap (0 % 128 * 2 ^ (7 * 0)) = 0 := by decide
              rw [e9] at ho1
              clear e9
              rw [Nat.add_zero] at hc1
              go_wp2_with fail
              go_ret2
              exact ⟨by rw [HZ.out]; rfl, rfl⟩
          · have hc : ¬ ((k = 9 ∧ 1 < X) ∨ (X = 0 ∧ 0 < k)) := by omega
            have hz : unv xs = (acc + (X % 128).toNat * 128 ^ k, k + 1) := by rw [HU.out, GO.out, if_neg hc, if_pos a1]
            obtain ⟨ho1, ho2⟩ := HO.out hc
            have HZ := Lib.hid hz
            clear hz hc
            generalize acc + (X % 128).toNat * 128 ^ k = R at *
            go_wp2_with fail
            go_ret2
            exact ⟨by rw [HZ.out]; rfl, rfl⟩
      · by_cases a2 : 9 ≤ k
        · have hz : unv xs = (0, 0) := by rw [HU.out, GO.out, if_pos (Or.inl ⟨by omega, by omega⟩)]
          rw [hz]
          go_wp2_with fail
          go_ret2
          exact ⟨rfl, rfl⟩
        · have hc : ¬ ((k = 9 ∧ 1 < X) ∨ (X = 0 ∧ 0 < k)) := by omega
          have hz : unv xs = unvGo (xs.drop (k + 1)) (k + 1) (acc + (X % 128).toNat * 128 ^ k) := by rw [HU.out, GO.out, if_neg hc, if_neg a1]
          have hlt2 := unv_acc_lt acc k X HA.out
          obtain ⟨ho1, ho2⟩ := HO.out hc
          have HZ := Lib.hid hz
          have HL := Lib.hid hlt2
          clear hz hc hlt2
          generalize acc + (X % 128).toNat * 128 ^ k = R at *
          go_wp2_with fail
          go_round
          case rel => exact ⟨k + 1, R, by omega, by omega, by go_num, rfl, HL.out, HZ.out⟩
          case measure => simp [intOf]; omega
    · obtain rfl : k = n := by omega
      rw [List.drop_of_length_le (by omega)] at HU
      go_wp2_with fail
      go_ret2
      exact ⟨by rw [HU.out]; rfl, rfl⟩
end Go.Proofs.Ytffpjnabbmimgaa
