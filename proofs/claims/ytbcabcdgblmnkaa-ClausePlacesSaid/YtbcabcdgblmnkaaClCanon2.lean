/- Contracts of package clause: Canon, both, Always, Within, Holds. -/
import Derived.Test.YtbcabcdgblmnkaaClCanon
namespace Go.Proofs.Ytbcabcdgblmnkaa
open Go.RowKit
set_option linter.unusedVariables false
set_option linter.unusedSimpArgs false

theorem clip_any (A : Option Addr) (n c : Nat) (w : World) (hnc : n ≤ c) (hc : c ≤ maxLen) : Calls Try.prog 47 #[.slice A n c] w fun e w' => e = .returned (.slice A n n) ∧ w' = w := by
  unfold maxLen at hc
  have h0 : (0 : Int) ≤ (n : Int) := by omega
  have h1 : (n : Int) ≤ (c : Int) := by omega
  cases A with
  | none =>
    go_enter Try.func47, Try.ntmps47
    go_wp2_with fail
    go_ret
    exact ⟨by simp, rfl⟩
  | some a =>
    go_enter Try.func47, Try.ntmps47
    go_wp2_with fail
    go_ret
    exact ⟨by simp, rfl⟩

set_option maxRecDepth 100000 in
set_option maxHeartbeats 4000000 in
theorem canon_good (xs : List Int) (A : Option Addr) (n c : Nat) (w : World) (hl : xs.length = n) (hnc : n ≤ c) (hn : n ≤ 1000000) (hr : Rd w 1 A n (ints xs)) (hlit : ∀ l ∈ xs, IsLit l) :
    Calls Try.prog 21 #[.slice A n c] w fun e w' => ∃ v, e = .returned (.tuple #[v, .int .i64 0]) ∧ RowI w' w.heap.size v (canonI xs) ∧ Below w.heap.size w w' := by
  have hcl := clone_any xs A n c w hl hnc hn hr
  have hso := fun v w1 (ho : OwnI w1 w.heap.size v xs) => sort_any xs w.heap.size v w1 (by omega) hlit ho
  have hco := fun ys v w1 (hy : ys.length = xs.length) (ho : OwnI w1 w.heap.size v ys) => compact_any ys w.heap.size v w1 (by omega) ho
  have hcc := fun ys (hm : ∀ a, a ∈ ys ↔ a ∈ xs) hs => compact_canon xs ys hm hs
  have hlen := canonI_len xs
  have HCL := Lib.hid hcl
  have HSO := Lib.hid hso
  have HCO := Lib.hid hco
  have HCC := Lib.hid hcc
  have HR := Lib.hid hr
  have HLIT := Lib.hid hlit
  clear hcl hso hco hcc hr hlit
  go_enter Try.func21, Try.ntmps21
  go_wp2_with fail
  go_loop [9] (fun x => ∃ (i : Nat), i ≤ n ∧ x = .int .i64 i) (fun x => n - (intOf x).toNat)
  case atStart => exact ⟨0, Nat.zero_le _, rfl⟩
  case round =>
    obtain ⟨i, hi', rfl⟩ := hrel
    by_cases hlt : i < n
    · obtain ⟨b, off, rfl, hc⟩ := HR.out.int i hlt hl
      obtain ⟨hz, h1, h2⟩ := HLIT.out _ (getD_mem xs i (by omega))
      generalize xs.getD i 0 = l at *
      have hs := size_lit l w h1 h2
      have hna : ((l.natAbs : Int) == 0) = false := by
        rw [beq_eq_false_iff_ne]
        omega
      have hna2 : ¬ l = 0 := hz
      generalize (l.natAbs : Int) = k at *
      go_wp2_with (go_at_call 43; refine hs.mono ?_; rintro e w' ⟨rfl, hw⟩; obtain rfl := hw.symm)
      go_round
      case rel => exact ⟨i + 1, by omega, by go_num⟩
      case measure => simp [intOf]; omega
    · go_wp2_with (first | (go_at_call 44; refine HCL.out.mono ?_; rintro e w1 ⟨v1, rfl, ho1, hb1⟩; have HO1 := Lib.hid ho1; clear ho1) | (go_at_call 45; refine (HSO.out _ _ HO1.out).mono ?_; rintro e w2 ⟨rfl, ys, ho2, hy, hm, hs, hB2⟩; have hb2 := hB2 w hb1; have hcc := HCC.out ys hm hs; have HO2 := Lib.hid ho2; have HY := Lib.hid (HCO.out ys _ _ hy ho2); clear ho2 hy hm hs hB2) | (go_at_call 48; refine HY.out.mono ?_; rintro e w3 ⟨v3, rfl, ho3, hB3⟩; have hb3 := hB3 w hb2; rw [hcc] at ho3; have hr3 := ho3.row; obtain ⟨A3, c3, rfl, hn3, hm3, hrd3, hg3⟩ := hr3; have HR3 := Lib.hid (And.intro hrd3 hg3); have hcp := clip_any A3 (canonI xs).length c3 w3 hn3 hm3; clear hcc ho3 hB3 hrd3 hg3) | (go_at_call 47; refine hcp.mono ?_; rintro e w4 ⟨rfl, hw⟩; obtain rfl := hw.symm))
      go_ret2
      refine ⟨_, rfl, ⟨A3, _, rfl, Nat.le_refl _, by unfold maxLen; omega, HR3.out.1, HR3.out.2⟩, hb3⟩
set_option maxRecDepth 100000 in
set_option maxHeartbeats 4000000 in
theorem canon_bad (xs : List Int) (A : Option Addr) (n c : Nat) (w : World) (hl : xs.length = n) (hn : n ≤ 1000000) (hr : Rd w 1 A n (ints xs)) (hw : ∀ l ∈ xs, IsI64 l) (hbad : goodB xs = false) :
    Calls Try.prog 21 #[.slice A n c] w fun e w' => e = .returned (.tuple #[.slice none 0 0, .int .i64 4]) ∧ w' = w := by
  have HR := Lib.hid hr
  have HW := Lib.hid hw
  have HC := Lib.hid hbad
  clear hr hw hbad
  go_enter Try.func21, Try.ntmps21
  go_wp2_with fail
  go_loop [9] (fun x => ∃ (i : Nat), i ≤ n ∧ x = .int .i64 i ∧ goodB (xs.drop i) = false) (fun x => n - (intOf x).toNat)
  case atStart => exact ⟨0, Nat.zero_le _, rfl, by rw [List.drop_zero]; exact HC.out⟩
  case round =>
    obtain ⟨i, hi', rfl, hC⟩ := hrel
    by_cases hlt : i < n
    · obtain ⟨b, off, rfl, hc⟩ := HR.out.int i hlt hl
      obtain ⟨h1, h2⟩ := HW.out _ (getD_mem xs i (by omega))
      rw [drop_getD xs i (by omega), goodB_cons] at hC
      generalize xs.getD i 0 = l at *
      by_cases hz : l = 0
      · subst hz
        have hs := size_lit 0 w (by omega) (by omega)
        rw [show (((0 : Int).natAbs : Nat) : Int) = 0 from rfl] at hs
        clear hC
        go_wp2_with (go_at_call 43; refine hs.mono ?_; rintro e w' ⟨rfl, hw⟩; obtain rfl := hw.symm)
        go_ret2
        exact ⟨rfl, rfl⟩
      · rw [if_neg hz] at hC
        by_cases hm : l = -9223372036854775808
        · subst hm
          have hs := size_min w
          clear hC h1 h2 hz
          go_wp2_with (go_at_call 43; refine hs.mono ?_; rintro e w' ⟨rfl, hw⟩; obtain rfl := hw.symm)
          go_ret2
          exact ⟨rfl, rfl⟩
        · rw [if_neg hm] at hC
          have hs := size_lit l w (by omega) h2
          have hna : ((l.natAbs : Int) == 0) = false := by
            rw [beq_eq_false_iff_ne]
            omega
          generalize (l.natAbs : Int) = k at *
          have HCC := Lib.hid hC
          clear hC
          go_wp2_with (go_at_call 43; refine hs.mono ?_; rintro e w' ⟨rfl, hw⟩; obtain rfl := hw.symm)
          go_round
          case rel => exact ⟨i + 1, by omega, by go_num, HCC.out⟩
          case measure => simp [intOf]; omega
    · obtain rfl : i = n := by omega
      rw [List.drop_of_length_le (by omega)] at hC
      cases hC
theorem canon_any (xs : List Int) (A : Option Addr) (n c : Nat) (w : World) (hl : xs.length = n) (hnc : n ≤ c) (hn : n ≤ 1000000) (hr : Rd w 1 A n (ints xs)) (hw : ∀ l ∈ xs, IsI64 l) :
    Calls Try.prog 21 #[.slice A n c] w fun e w' => ∃ v, e = .returned (.tuple #[v, .int .i64 (if goodB xs = true then 0 else 4)]) ∧ RowI w' w.heap.size v (if goodB xs = true then canonI xs else []) ∧ Below w.heap.size w w' := by
  cases hg : goodB xs with
  | true =>
    rw [if_pos rfl, if_pos rfl]
    exact canon_good xs A n c w hl hnc hn hr (good_lit hg hw)
  | false =>
    rw [if_neg (by simp), if_neg (by simp)]
    refine (canon_bad xs A n c w hl hn hr hw hg).mono ?_
    rintro e w' ⟨rfl, rfl⟩
    exact ⟨_, rfl, RowI.nil _ _, Below.refl _ _⟩

/-- two clauses at once. -/
def bothG (xs ys : List Int) : Bool := goodB xs && goodB ys
set_option maxRecDepth 100000 in
set_option maxHeartbeats 4000000 in
theorem both_any (xs ys : List Int) (A A2 : Option Addr) (n c m c2 : Nat) (w : World) (hl : xs.length = n) (hnc : n ≤ c) (hn : n ≤ 1000000) (hr : Rd w 1 A n (ints xs)) (hw : ∀ l ∈ xs, IsI64 l)
    (hl2 : ys.length = m) (hnc2 : m ≤ c2) (hm : m ≤ 1000000) (hr2 : Rd w 1 A2 m (ints ys)) (hw2 : ∀ l ∈ ys, IsI64 l) :
    Calls Try.prog 40 #[.slice A n c, .slice A2 m c2] w fun e w' => ∃ v1 v2, e = .returned (.tuple #[v1, v2, .int .i64 (if bothG xs ys = true then 0 else 4)]) ∧
      RowI w' w.heap.size v1 (if bothG xs ys = true then canonI xs else []) ∧ RowI w' w.heap.size v2 (if bothG xs ys = true then canonI ys else []) ∧ Below w.heap.size w w' := by
  unfold bothG
  have h1 := canon_any xs A n c w hl hnc hn hr hw
  have h2 := fun w1 (hb : Below w.heap.size w w1) => canon_any ys A2 m c2 w1 hl2 hnc2 hm (hr2.below hb) hw2
  generalize canonI xs = cx at *
  generalize canonI ys = cy at *
  generalize goodB xs = gx at *
  generalize goodB ys = gy at *
  have H1 := Lib.hid h1
  have H2 := Lib.hid h2
  clear h1 h2 hr hr2 hw hw2
  cases gx with
  | false =>
    have h1 := H1.out
    rw [if_neg (by simp), if_neg (by simp)] at h1
    clear H1
    rw [Bool.false_and, if_neg (by simp), if_neg (by simp), if_neg (by simp)]
    go_enter Try.func40, Try.ntmps40
    go_wp2_with (go_at_call 21; refine h1.mono ?_; rintro e w1 ⟨v1, rfl, ho1, hb1⟩; have HO1 := Lib.hid ho1; clear ho1)
    go_ret3
    exact ⟨_, _, rfl, RowI.nil _ _, RowI.nil _ _, hb1⟩
  | true =>
    have h1 := H1.out
    rw [if_pos rfl, if_pos rfl] at h1
    clear H1
    rw [Bool.true_and]
    cases gy with
    | false =>
      have h2 := H2.out
      simp only [Bool.false_eq_true, if_false] at h2
      have HH2 := Lib.hid h2
      clear H2 h2
      rw [if_neg (by simp), if_neg (by simp), if_neg (by simp)]
      go_enter Try.func40, Try.ntmps40
      go_upto_region 4 with (go_at_call 21; refine h1.mono ?_; rintro e w1 ⟨v1, rfl, ho1, hb1⟩; have HO1 := Lib.hid ho1; clear ho1)
      go_wp2_with (go_at_call 21; refine (HH2.out _ hb1).mono ?_; rintro e w2 ⟨v2, rfl, ho2, hb2⟩; have HO2 := Lib.hid ho2; clear ho2)
      go_ret3
      exact ⟨_, _, rfl, RowI.nil _ _, RowI.nil _ _, hb1.trans (hb2.mono hb1.size)⟩
    | true =>
      have h2 := H2.out
      simp only [if_true] at h2
      have HH2 := Lib.hid h2
      clear H2 h2
      rw [if_pos rfl, if_pos rfl, if_pos rfl]
      go_enter Try.func40, Try.ntmps40
      go_upto_region 4 with (go_at_call 21; refine h1.mono ?_; rintro e w1 ⟨v1, rfl, ho1, hb1⟩; have HO1 := Lib.hid ho1; clear ho1)
      go_wp2_with (go_at_call 21; refine (HH2.out _ hb1).mono ?_; rintro e w2 ⟨v2, rfl, ho2, hb2⟩; have HO2 := Lib.hid ho2; clear ho2)
      go_ret3
      exact ⟨_, _, rfl, HO1.out.below hb2, HO2.out.more hb1.size, hb1.trans (hb2.mono hb1.size)⟩
end Go.Proofs.Ytbcabcdgblmnkaa
