/- Contracts of package limb (layer 2): cut, Norm, Word, Low, shiftOK, Shl, Shr. -/
import Derived.Test.YtlbbbafehhdpnaaDoorRows
import Derived.Test.YtlbbbafehhdpnaaDoorMem
import Derived.Test.YtlbbbafehhdpnaaDoorLimbMath
import Derived.BigQuiet
import Derived.Deep.QuietTactic
namespace Go.Proofs.YtlbbbafehhdpnaaDoor
open Go.RowKit

theorem info_u32 : (Tryd.prog.info? 25).map (fun i => (i.zero, i.size, i.bytes)) = some (some (.int .u32 0), 1, 4) := by kernel_rfl
def lw (l : List Nat) : List Value := l.map fun (u : Nat) => Value.int .u32 (u : Int)
theorem lw_append (a b : List Nat) : lw (a ++ b) = lw a ++ lw b := by simp [lw]
theorem lw_length (l : List Nat) : (lw l).length = l.length := by simp [lw]
theorem lw_get (l : List Nat) (k : Nat) (h : k < l.length) : (lw l)[k]? = some (.int .u32 (l[k] : Nat)) := by simp [lw, h]
theorem lw_take (l : List Nat) (k : Nat) : (lw l).take k = lw (l.take k) := by simp [lw, List.map_take]
theorem lw_drop (l : List Nat) (k : Nat) : (lw l).drop k = lw (l.drop k) := by simp [lw, List.map_drop]
theorem one32 (l : List Nat) : ∀ u ∈ lw l, u.oneCell' = true := by
  intro u hu
  obtain ⟨x, _, rfl⟩ := List.mem_map.1 hu
  rfl

theorem cut_any (xs : List Nat) (A : Option Addr) (n c : Nat) (w : World) (hl : xs.length = n) (hnc : n ≤ c) (hn : n ≤ 9223372036854775807) (hr : Rd w 1 A n (lw xs)) (hs : small xs) :
    Calls Tryd.prog 42 #[.slice A n c] w fun e w' => ∃ k : Nat, e = .returned (.slice A k c) ∧ k ≤ n ∧ xs.take k = limbs (lv xs) ∧ w = w' := by
  go_enter Tryd.func42, Tryd.ntmps42
  go_wp2_with fail
  go_loop [0] (fun a => ∃ m : Nat, m ≤ n ∧ a = .slice A m c ∧ lv (xs.take m) = lv xs) (fun a => match a with | .slice _ m _ => m | _ => 0)
  case atStart => exact ⟨n, Nat.le_refl _, rfl, by rw [List.take_of_length_le (by omega)]⟩
  case round =>
    obtain ⟨m, hm, rfl, hv⟩ := hrel
    have HV := Lib.hid hv; clear hv
    cases m with
    | zero =>
      go_wp2_with fail
      go_ret
      refine ⟨0, rfl, by omega, ?_, rfl⟩
      have := HV.out
      rw [List.take_zero] at this ⊢
      rw [← this, lv, limbs_zero]
    | succ m =>
      obtain ⟨b1, o1, u1, rfl, hu1, hc1⟩ := hr.at_ (k := m) (by omega)
      rw [lw_get xs m (by omega)] at hu1
      injection hu1 with hu1
      have ht := lv_take_succ xs m (by omega)
      have htk : xs.take (m + 1) = xs.take m ++ [xs[m]] := List.take_succ_eq_append_getElem (by omega)
      have hxs := hs xs[m] (List.getElem_mem _)
      generalize xs[m] = X at *
      subst hu1
      have HT := Lib.hid ht
      have HK := Lib.hid htk
      have HR := Lib.hid hr
      have HS := Lib.hid hs
      clear ht htk hr hs
      have hc1' : w.cell? ⟨b1, o1 + ((m + 1 : Nat) - 1 : Int).toNat, none⟩ = some (.int .u32 X) := by rw [← hc1]; congr 2; omega
      by_cases hX : X ≤ 0
      · obtain rfl : X = 0 := by omega
        go_wp2_with fail
        go_round
        case rel => exact ⟨m, by omega, by first | rfl | (congr 1; omega), by rw [← HV.out, HT.out]; simp⟩
        case measure => simp
      · have hb : ((X : Int) == 0) = false := by rw [beq_eq_false_iff_ne]; omega
        go_wp2_with fail
        go_ret
        refine ⟨m + 1, rfl, hm, ?_, rfl⟩
        rw [← HV.out]
        symm
        refine limbs_lv _ (small_take HS.out _) fun hl => ?_
        have e : (xs.take (m + 1)).getLast hl = X := by simp [HK.out]
        rw [e]
        omega

theorem norm_any (xs : List Nat) (A : Option Addr) (n c : Nat) (w : World) (hl : xs.length = n) (hnc : n ≤ c) (hn : n ≤ 35184372088832) (hr : Rd w 1 A n (lw xs)) (hs : small xs) :
    Calls Tryd.prog 39 #[.slice A n c] w fun e w' => ∃ v, e = .returned v ∧ w'.ownsRow w.heap.size 25 1 v (limbs (lv xs)).length (lw (limbs (lv xs))) ∧ Below w.heap.size w w' := by
  obtain ⟨i0, hi, hz0, hz1, hz2⟩ := info_parts info_u32
  have hcut := cut_any xs A n c w hl hnc (by omega) hr hs
  have hlen := limbs_length_le xs hs
  generalize limbs (lv xs) = L at *
  have HCUT := Lib.hid hcut
  clear hcut
  go_enter Tryd.func39, Tryd.ntmps39
  go_wp2_with fail
  refine HCUT.out.mono ?_
  rintro e w' ⟨k, rfl, hk, htk, rfl⟩
  have hrk := hr.take hk
  rw [lw_take, htk] at hrk
  have hkl : k = L.length := by rw [← htk, List.length_take]; omega
  have HK := Lib.hid hkl
  clear HCUT hr hs htk hkl
  go_wp2_with (at_builtin; refine appR w.heap.size w w 25 rfl _ _ 22 rfl i0 (.int .u32 0) 4 Tryd.underlying22 hi hz0 hz1 hz2 rfl (by decide) _ 0 [] rfl (Nat.le_refl _) (World.ownsRow_nil _ _ _ _) (Below.refl _ _) A k c (lw L) rfl hrk (one32 L) (by omega) ?_)
  intro v1 w1 hown1 hb1 _
  go_wp2_with fail
  go_ret
  refine ⟨_, rfl, ?_, hb1⟩
  rw [← HK.out]
  simpa using hown1

theorem lv_two (u : Nat) (h : u < 18446744073709551616) : lv [u % 4294967296, u / 4294967296] = u := by simp only [lv]; omega
theorem word_any (u : Nat) (w : World) (hu : u < 18446744073709551616) :
    Calls Tryd.prog 37 #[.int .u64 u] w fun e w' => ∃ v, e = .returned v ∧ w'.ownsRow w.heap.size 25 1 v (limbs u).length (lw (limbs u)) ∧ Below w.heap.size w w' := by
  have hn := fun W hr => norm_any [u % 4294967296, u / 4294967296] (some ⟨w.heap.size, 0, none⟩) 2 2 W rfl (by omega) (by omega) hr (by intro x hx; simp at hx; omega)
  rw [lv_two u hu] at hn
  have HN := Lib.hid hn
  clear hn
  go_enter Tryd.func37, Tryd.ntmps37
  go_wp2_with fail
  refine (HN.out _ (rd_lit w _ _)).mono ?_
  rintro e w1 ⟨v, rfl, hown, hb⟩
  go_wp2_with fail
  go_ret
  exact ⟨_, rfl, own_more hown (by simp), ((Below.refl _ _).alloc (Nat.le_refl _) _).trans (hb.mono (by simp))⟩

theorem shiftOK_any (n : Int) (w : World) :
    Calls Tryd.prog 38 #[.int .i64 n] w fun e w' => e = .returned (.bool (decide (0 ≤ n ∧ n ≤ 100000))) ∧ w = w' := by
  by_cases h : 0 ≤ n
  · go_enter Tryd.func38, Tryd.ntmps38
    go_wp2_with fail
    go_ret
    exact ⟨ret_bool (by simp [h]), rfl⟩
  · go_enter Tryd.func38, Tryd.ntmps38
    go_wp2_with fail
    go_ret
    exact ⟨ret_bool (by simp; omega), rfl⟩

theorem low_or (U X : Nat) (hU : U < 4294967296) (hX : X < 4294967296) : bits .or .u64 (U : Int) ((X : Int) * 4294967296) = ((U + 4294967296 * X : Nat) : Int) := by
  have e : (X : Int) * 4294967296 = ((4294967296 * X : Nat) : Int) := by omega
  rw [e, u64_or_nat _ _ (by omega) (by omega)]
  have h3 := Nat.two_pow_add_eq_or_of_lt (i := 32) (show U < 2 ^ 32 by omega) X
  have e2 : (2 : Nat) ^ 32 = 4294967296 := by decide
  rw [e2] at h3
  rw [Nat.or_comm, ← h3, Nat.add_comm]

end Go.Proofs.YtlbbbafehhdpnaaDoor
