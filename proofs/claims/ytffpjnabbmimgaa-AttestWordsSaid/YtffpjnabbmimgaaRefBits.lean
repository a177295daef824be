/- attestref01: Bits and From. -/
import Derived.Test.YtffpjnabbmimgaaRows
import Derived.Test.YtffpjnabbmimgaaMem
import Derived.Test.YtffpjnabbmimgaaBitMath
namespace Go.Proofs.Ytffpjnabbmimgaa
open Go.RowKit

theorem info_bool : (Try.prog.info? 4).map (fun i => (i.zero, i.size, i.bytes)) = some (some (.bool false), 1, 1) := by kernel_rfl

theorem rbits_any (X : Nat) (w : World) (hX : X ≤ 18446744073709551615) :
    Calls Try.prog 46 #[.int .u64 X] w fun e w' => ∃ v, e = .returned v ∧
      w'.ownsRow w.heap.size 4 1 v 64 ((bitsOf X 64).map Value.bool) ∧ Below w.heap.size w w' := by
  obtain ⟨i0, hi, hz0, hz1, hz2⟩ := info_parts info_bool
  go_enter Try.func46, Try.ntmps46
  go_wp2
  go_loopw [0, 3, 4] (fun x v i wr => ∃ k : Nat, k ≤ 64 ∧ i = .int .i64 k ∧ x = .int .u64 (X / 2 ^ k : Nat) ∧ wr.ownsRow w.heap.size 4 1 v k ((bitsOf X k).map Value.bool) ∧ Below w.heap.size w wr)
    (fun _ _ i _ => 64 - (intOf i).toNat)
  case atStart =>
    refine ⟨0, by omega, rfl, by simp, ?_, (Below.refl _ _).alloc (Nat.le_refl _) _⟩
    have := World.ownsRow_lit (base := w.heap.size) (e := 4) (size := 1) w #[] 0 (Nat.le_refl _) (by unfold maxLen; omega) rfl
    simpa [bitsOf] using this
  case round =>
    obtain ⟨k, hk, rfl, rfl, hown, hb⟩ := hrel
    have hlt : X / 2 ^ k ≤ 18446744073709551615 := Nat.le_trans (Nat.div_le_self _ _) hX
    have hbit := testBit_div X k
    have hstep := div_step X k
    generalize hY : X / 2 ^ k = Y at *
    have HY := Lib.hid hY; clear hY
    have HB := Lib.hid hbit; clear hbit
    have HS := Lib.hid hstep; clear hstep
    go_wp2_with (at_builtin; refine app1 w.heap.size w wr _ 4 rfl _ _ 66 rfl i0 (.bool false) 1 Try.underlying66 hi hz0 hz1 hz2 rfl (by decide) _ k _ rfl (Nat.le_refl _) hown hb rfl rfl (by omega) ?_)
    · intro v1 w1 hown1 hb1 _
      clear hown hb
      have hlt : k < 64 := by omega
      go_wp2
      go_roundw
      case rel =>
        refine ⟨k + 1, by omega, by go_num, ?_, ?_, hb1⟩
        · rw [← HS.out]; simp
        · rw [bitsOf_succ, ← HB.out]
          have e : (((Y : Int) % 2 == 1)) = (Y % 2 == 1) := by
            rw [Bool.eq_iff_iff]; simp; omega
          rw [e] at hown1
          simpa using hown1
      case measure => simp [intOf]; omega
    · go_ret
      have : k = 64 := by omega
      subst this
      exact ⟨_, rfl, hown, hb⟩

theorem rfrom_any (l : List Bool) (n : Nat) (A : Option Addr) (c : Nat) (w : World) (hn : l.length = n) (hl : l.length ≤ 64) (hr : Rd w 1 A n (l.map Value.bool)) :
    Calls Try.prog 47 #[.slice A n c] w fun e w' => e = .returned (.int .u64 (ofBits l)) ∧ w = w' := by
  subst hn
  go_enter Try.func47, Try.ntmps47
  go_wp2
  go_loop [3, 4] (fun x i => ∃ k : Nat, k ≤ l.length ∧ i = .int .i64 ((k : Int) - 1) ∧ x = .int .u64 (ofBits (l.drop k)))
    (fun _ i => (intOf i + 1).toNat)
  case atStart =>
    refine ⟨l.length, by omega, rfl, by simp [ofBits]⟩
  case round =>
    obtain ⟨k, hk, rfl, rfl⟩ := hrel
    cases k with
    | zero =>
      go_wp2
      go_ret
      exact ⟨by simp, rfl⟩
    | succ k =>
      obtain ⟨b, off, u, rfl, hu, hc⟩ := hr.at_ (k := k) (by omega)
      have hlt : k < l.length := by omega
      have hd := ofBits_drop l k hlt
      have hbd : ofBits (l.drop (k + 1)) < 2 ^ (l.length - (k + 1)) := by have := ofBits_lt (l.drop (k + 1)); simpa using this
      have hb2 : ofBits (l.drop (k + 1)) < 2 ^ 63 := Nat.lt_of_lt_of_le hbd (Nat.pow_le_pow_right (by omega) (by omega))
      have hb3 : ofBits (l.drop (k + 1)) < 9223372036854775808 := hb2
      clear hbd hb2
      generalize hz : l[k] = z at hd
      have hu' : u = .bool z := by rw [List.getElem?_map, List.getElem?_eq_getElem hlt] at hu; simp at hu; rw [← hu, hz]
      subst hu'
      have HD := Lib.hid hd; clear hd hz hu hr
      generalize hY : ofBits (l.drop (k + 1)) = Y at *
      have HY := Lib.hid hY; clear hY
      have hc' : w.cell? ⟨b, off + ((k + 1 : Nat) - 1 : Int).toNat, none⟩ = some (.bool z) := by rw [← hc]; congr 2; omega
      go_wp2
      all_goals
        go_round
        case rel => exact ⟨k, by omega, rfl, by rw [HD.out]; simp_all; try omega⟩
        case measure => simp [intOf]; try omega
end Go.Proofs.Ytffpjnabbmimgaa
