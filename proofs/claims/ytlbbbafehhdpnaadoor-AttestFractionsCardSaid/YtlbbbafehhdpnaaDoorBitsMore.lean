/- Contracts: numbers in groups of seven bits: more, Varint and its reference. -/
import Derived.Test.YtlbbbafehhdpnaaDoorBitsA
import Derived.Test.YtlbbbafehhdpnaaDoorBitMath
import Derived.Test.YtlbbbafehhdpnaaDoorMem
namespace Go.Proofs.YtlbbbafehhdpnaaDoor
open Go.RowKit

theorem info_u8 : (Tryd.prog.info? 5).map (fun i => (i.zero, i.size, i.bytes)) = some (some (.int .u8 0), 1, 1) := by kernel_rfl
def bytes8 (l : List Int) : List Value := l.map (Value.int .u8)
theorem bytes8_append (a b : List Int) : bytes8 (a ++ b) = bytes8 a ++ bytes8 b := by simp [bytes8]
theorem bytes8_one (c : Int) : bytes8 [c] = [.int .u8 c] := rfl
theorem bytes8_length (l : List Int) : (bytes8 l).length = l.length := by simp [bytes8]
theorem bytes8_get (l : List Int) (k : Nat) (h : k < l.length) : (bytes8 l)[k]? = some (.int .u8 l[k]) := by simp [bytes8, h]

theorem or128 (y : Nat) : bits .or .u8 ((y : Int) % 256) 128 = ((y % 128 + 128 : Nat) : Int) := by
  rw [u8_or _ _ (by omega) (by omega) (by omega) (by omega)]
  have e : ((y : Int) % 256).toNat = 128 * (y / 128 % 2) + y % 128 := by omega
  have e2 : (128 : Int).toNat = 128 := rfl
  rw [e, e2]
  have h2 : 128 * (y / 128 % 2) + y % 128 ||| 128 = y % 128 + 128 := by
    have hlt : y % 128 < 2 ^ 7 := by omega
    rcases (show y / 128 % 2 = 0 ∨ y / 128 % 2 = 1 by omega) with h | h
    · rw [h]
      have h3 := Nat.two_pow_add_eq_or_of_lt hlt 1
      simp at h3 ⊢
      rw [Nat.or_comm, ← h3]; omega
    · rw [h]
      have h3 := Nat.two_pow_add_eq_or_of_lt hlt 1
      simp at h3 ⊢
      rw [h3, Nat.or_comm 128, Nat.or_assoc, Nat.or_self, Nat.or_comm, ← h3]; omega
  rw [h2]

set_option maxRecDepth 10000 in
theorem more_any (B : Nat) (v : Value) (n : Nat) (xs : List Int) (u : Nat) (w : World) (hu : u < 18446744073709551616) (hown : w.ownsRow B 5 1 v n (bytes8 xs)) (hB : B ≤ w.heap.size) (hn : n + 10 ≤ 140737488355328) :
    Calls Tryd.prog 45 #[v, .int .u64 u] w fun e w' => ∃ v', e = .returned v' ∧ w'.ownsRow B 5 1 v' (n + (vint u).length) (bytes8 (xs ++ vint u)) ∧ Below B w w' := by
  obtain ⟨i0, hi, hz0, hz1, hz2⟩ := info_parts info_u8
  have hlen := vint_length64 u hu
  go_enter Tryd.func45, Tryd.ntmps45
  go_wp2_with fail
  go_loopw [0, 1] (fun b y wr => ∃ (Y : Nat) (ys : List Int), y = .int .u64 Y ∧ Y < 18446744073709551616 ∧ vint u = ys ++ vint Y ∧ wr.ownsRow B 5 1 b (n + ys.length) (bytes8 (xs ++ ys)) ∧ Below B w wr)
    (fun _ y _ => (intOf y).toNat)
  case atStart => exact ⟨u, [], rfl, hu, rfl, by simpa using hown, Below.refl _ _⟩
  case round =>
    clear hown
    obtain ⟨Y, ys, rfl, hY, hv, hown, hb⟩ := hrel
    have hys : ys.length + 1 ≤ 10 := by
      have := vint_pos Y
      have h2 := congrArg List.length hv
      rw [List.length_append] at h2
      omega
    have HV := Lib.hid hv; clear hv
    by_cases hbig : 128 ≤ Y
    · have hor := or128 Y
      have hvb := Lib.hid (vint_big Y hbig)
      go_wp2_with (at_builtin; refine app1 B w wr _ 5 rfl _ _ 35 rfl i0 (.int .u8 0) 1 Tryd.underlying35 hi hz0 hz1 hz2 rfl (by decide) _ (n + ys.length) _ rfl hB hown hb rfl rfl (by omega) ?_)
      intro v1 w1 hown1 hb1 _
      clear hown hb hor
      go_wp2_with fail
      go_roundw
      case rel =>
        refine ⟨Y / 128, ys ++ [((Y % 128 + 128 : Nat) : Int)], by go_num, by omega, ?_, ?_, hb1⟩
        · rw [HV.out, hvb.out]; simp
        · rw [← List.append_assoc, bytes8_append, bytes8_one, List.length_append, ← Nat.add_assoc]
          exact hown1
      case measure => simp [intOf]; omega
    · have hvs := Lib.hid (vint_small Y (by omega))
      go_wp2_with (at_builtin; refine app1 B w wr _ 5 rfl _ _ 35 rfl i0 (.int .u8 0) 1 Tryd.underlying35 hi hz0 hz1 hz2 rfl (by decide) _ (n + ys.length) _ rfl hB hown hb rfl rfl (by omega) ?_)
      intro v1 w1 hown1 hb1 _
      go_wp2_with fail
      go_ret
      refine ⟨_, rfl, ?_, hb1⟩
      rw [HV.out, hvs.out, ← List.append_assoc, bytes8_append, bytes8_one, List.length_append, ← Nat.add_assoc]
      exact hown1


end Go.Proofs.YtlbbbafehhdpnaaDoor
