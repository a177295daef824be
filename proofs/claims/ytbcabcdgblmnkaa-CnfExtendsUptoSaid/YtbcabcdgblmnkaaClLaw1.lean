/- The laws' awake of clauses, the reference's Holds, and the law ClauseHolds. -/
import Derived.Test.YtbcabcdgblmnkaaClResolveR
import Derived.Test.YtbcabcdgblmnkaaOpen
namespace Go.Proofs.Ytbcabcdgblmnkaa
open Go.RowKit
set_option linter.unusedVariables false
set_option linter.unusedSimpArgs false

theorem bstepC {w W W1 : World} (h : Below w.heap.size w W) (h' : Below W.heap.size W W1) : Below w.heap.size w W1 := h.trans (h'.mono h.size)
set_option maxRecDepth 100000 in
set_option maxHeartbeats 4000000 in
theorem holdsR_any (xs : List Int) (A : Option Addr) (n c : Nat) (vals : List Bool) (A2 : Option Addr) (n2 c2 : Nat) (w : World) (hl : xs.length = n) (hn : n ≤ maxLen) (hr : Rd w 1 A n (ints xs)) (hlit : ∀ l ∈ xs, IsLit l)
    (hl2 : vals.length = n2) (hn2 : n2 ≤ maxLen) (hr2 : Rd w 1 A2 n2 (boolL vals)) :
    Calls Try.prog 20 #[.slice A n c, .slice A2 n2 c2] w fun e w' => e = .returned (.bool (xs.any (holdL vals))) ∧ w' = w := by
  unfold maxLen at hn hn2
  generalize hC : xs.any (holdL vals) = C
  have HC := Lib.hid hC
  have HR := Lib.hid hr
  have HR2 := Lib.hid hr2
  have HLIT := Lib.hid hlit
  clear hC hr hr2 hlit
  go_enter Try.func20, Try.ntmps20
  go_wp2_with fail
  go_loop [11] (fun x => ∃ (i : Nat), i ≤ n ∧ x = .int .i64 i ∧ (xs.drop i).any (holdL vals) = C) (fun x => n - (intOf x).toNat)
  case atStart => exact ⟨0, Nat.zero_le _, rfl, by rw [List.drop_zero]; exact HC.out⟩
  case round =>
    obtain ⟨i, hi', rfl, hC⟩ := hrel
    by_cases hlt : i < n
    · obtain ⟨b, off, rfl, hc⟩ := HR.out.int i hlt hl
      obtain ⟨hz, hl1, hl2'⟩ := HLIT.out _ (getD_mem xs i (by omega))
      rw [drop_getD xs i (by omega), List.any_cons] at hC
      generalize xs.getD i 0 = l at *
      obtain ⟨m, hm0, hk⟩ : ∃ m : Int, 0 < m ∧ (l = m ∨ l = -m) := ⟨l.natAbs, by omega, by omega⟩
      have hhl : holdL vals l = ((if m.toNat ≤ n2 then vals.getD (m.toNat - 1) false else false) == decide (0 < l)) := by
        unfold holdL
        rw [show l.natAbs = m.toNat by omega, hl2]
      have hm1 : m ≤ 9223372036854775807 := by omega
      have hm2 : 0 ≤ m - 1 := by omega
      have hm3 : ¬ m < 0 := by omega
      have hx1 : max m (-m) = m := by omega
      have hx2 : max (-m) m = m := by omega
      generalize holdL vals l = hv at *
      clear hl1 hl2' hz
      by_cases hin : m.toNat ≤ n2
      · rw [if_pos hin] at hhl
        obtain ⟨b2, off2, rfl, hc2⟩ := boolAt HR2.out (m.toNat - 1) (by omega) hl2
        have hin' : m ≤ (n2 : Int) := by omega
        have hin2 : m - 1 < (n2 : Int) := by omega
        generalize vals.getD (m.toNat - 1) false = u at *
        clear hin
        rcases hk with rfl | rfl
        · rw [decide_eq_true hm0] at hhl
          subst hhl
          cases u with
          | true =>
            rw [show (true == true) = true from rfl, Bool.true_or] at hC
            subst hC
            go_wp2_with fail
            go_ret
            exact ⟨rfl, rfl⟩
          | false =>
            rw [show (false == true) = false from rfl, Bool.false_or] at hC
            have HCC := Lib.hid hC
            clear hC
            go_wp2_with fail
            go_round
            case rel => exact ⟨i + 1, by omega, by go_num, HCC.out⟩
            case measure => simp [intOf]; omega
        · have hng : ¬ 0 < -m := by omega
          rw [decide_eq_false hng] at hhl
          subst hhl
          cases u with
          | true =>
            rw [show (true == false) = false from rfl, Bool.false_or] at hC
            have HCC := Lib.hid hC
            clear hC
            go_wp2_with fail
            go_round
            case rel => exact ⟨i + 1, by omega, by go_num, HCC.out⟩
            case measure => simp [intOf]; omega
          | false =>
            rw [show (false == false) = true from rfl, Bool.true_or] at hC
            subst hC
            go_wp2_with fail
            go_ret
            exact ⟨rfl, rfl⟩
      · rw [if_neg hin] at hhl
        have hin' : ¬ m ≤ (n2 : Int) := by omega
        clear hin
        rcases hk with rfl | rfl
        · rw [decide_eq_true hm0] at hhl
          subst hhl
          rw [show (false == true) = false from rfl, Bool.false_or] at hC
          have HCC := Lib.hid hC
          clear hC
          go_wp2_with fail
          go_round
          case rel => exact ⟨i + 1, by omega, by go_num, HCC.out⟩
          case measure => simp [intOf]; omega
        · have hng : ¬ 0 < -m := by omega
          rw [decide_eq_false hng] at hhl
          subst hhl
          rw [show (false == false) = true from rfl, Bool.true_or] at hC
          subst hC
          go_wp2_with fail
          go_ret
          exact ⟨rfl, rfl⟩
    · obtain rfl : i = n := by omega
      rw [List.drop_of_length_le (by omega), List.any_nil] at hC
      subst hC
      go_wp2_with fail
      go_ret
      exact ⟨rfl, rfl⟩

theorem awk_res : resP [1, 2] [-2, 3] = ([1, 3], 2, 0) := by decide
theorem i64s (xs : List Int) (h : ∀ x ∈ xs, (Lit.int .i64 x).wf = true) : ∀ l ∈ xs, IsI64 l := fun l hl => b_i64 (h l hl)
set_option maxRecDepth 100000 in
theorem cawake_any (w : World) : Calls Try.prog 16 #[] w fun e w' => e = .returned (.bool true) ∧ Below w.heap.size w w' := by
  have b1 : Below w.heap.size w ((w.alloc (.cells #[.int .i64 1, .int .i64 2] 3)).alloc (.cells #[.int .i64 (-2), .int .i64 3] 3)) := ((Below.refl _ _).alloc (Nat.le_refl _) _).alloc (by simp) _
  have hr1 : Rd ((w.alloc (.cells #[.int .i64 1, .int .i64 2] 3)).alloc (.cells #[.int .i64 (-2), .int .i64 3] 3)) 1 (some ⟨w.heap.size, 0, none⟩) 2 (ints [1, 2]) := (rd_lit w #[.int .i64 1, .int .i64 2] 3).alloc _
  have hr2 := rd_lit (w.alloc (.cells #[.int .i64 1, .int .i64 2] 3)) #[.int .i64 (-2), .int .i64 3] 3
  rw [show (w.alloc (.cells #[.int .i64 1, .int .i64 2] 3)).heap.size = w.heap.size + 1 by simp] at hr2
  have h1 := resolve_any [1, 2] [-2, 3] (some ⟨w.heap.size, 0, none⟩) (some ⟨w.heap.size + 1, 0, none⟩) 2 2 2 2 _ rfl (by omega) (by omega) hr1 (by intro l hl; simp at hl; unfold IsI64; omega) rfl (by omega) (by omega) hr2 (by intro l hl; simp at hl; unfold IsI64; omega)
  rw [awk_res] at h1
  simp only at h1
  have H1 := Lib.hid h1
  have B1 := Lib.hid b1
  clear h1 b1 hr1 hr2
  go_enter Try.func16, Try.ntmps16
  go_wp2_with (first | (go_at_call 14; refine H1.out.mono ?_; rintro e w1 ⟨v1, rfl, ho1, hb1⟩; obtain ⟨A1, c1, rfl, _, _, hr1⟩ := ho1.rd; have hb2 := bstepC B1.out hb1; have hsm := same_any [1, 3] [1, 3] A1 (some ⟨w1.heap.size, 0, none⟩) 2 c1 2 2 (w1.alloc (.cells #[.int .i64 1, .int .i64 3] 3)) rfl (by unfold maxLen; omega) (hr1.alloc _) rfl (by unfold maxLen; omega) (rd_lit w1 _ _); clear hb1 ho1 hr1) | (go_at_call 19; refine hsm.mono ?_; rintro e w2 ⟨rfl, q, rfl⟩))
  go_ret
  exact ⟨by simp, below_drewN (hb2.alloc hb2.size _) q⟩
end Go.Proofs.Ytbcabcdgblmnkaa
