/- Contracts of package clause: Always, Within, Holds. -/
import Derived.Test.YtbcabcdgblmnkaaClCanon
import Derived.IntWalk
namespace Go.Proofs.Ytbcabcdgblmnkaa
open Go.RowKit
set_option linter.unusedVariables false
set_option linter.unusedSimpArgs false

/-- does a literal stand next to its opposite? -/
def adjB : List Int → Bool
  | x :: y :: r => if y = -x then true else adjB (y :: r)
  | _ => false
def getI (xs : List Int) (i : Nat) : Int := xs.getD i 0
theorem adjB_cons (x y : Int) (r : List Int) : adjB (x :: y :: r) = if y = -x then true else adjB (y :: r) := rfl
theorem adjB_one (x : Int) : adjB [x] = false := rfl
theorem RowI.lits {w : World} {B : Nat} {v : Value} {xs : List Int} (h : RowI w B v xs) (hl : ∀ l ∈ xs, IsLit l) (i : Nat) (hi : i < xs.length) : IsLit (xs.getD i 0) := hl _ (getD_mem xs i hi)
theorem canon_lits {xs : List Int} (h : ∀ l ∈ xs, IsLit l) : ∀ l ∈ canonI xs, IsLit l := fun l hl => h l ((canonI_mem xs l).1 hl)

theorem adjB_short (l : List Int) (h : l.length ≤ 1) : adjB l = false := by
  match l, h with
  | [], _ => rfl
  | [x], _ => rfl
theorem natAbs_pos {l : Int} (h : l ≠ 0) : 1 ≤ l.natAbs := by omega
set_option maxRecDepth 100000 in
set_option maxHeartbeats 4000000 in
theorem always_any (xs : List Int) (A : Option Addr) (n c : Nat) (w : World) (hl : xs.length = n) (hnc : n ≤ c) (hn : n ≤ 1000000) (hr : Rd w 1 A n (ints xs)) (hw : ∀ l ∈ xs, IsI64 l) :
    Calls Try.prog 24 #[.slice A n c] w fun e w' => e = .returned (.tuple #[.bool (if goodB xs = true then adjB (canonI xs) else false), .int .i64 (if goodB xs = true then 0 else 4)]) ∧ Below w.heap.size w w' := by
  have h1 := canon_any xs A n c w hl hnc hn hr hw
  have hcl : goodB xs = true → ∀ l ∈ canonI xs, IsLit l := fun h => canon_lits (good_lit h hw)
  have hlen := canonI_len xs
  generalize canonI xs = cx at *
  generalize goodB xs = gx at *
  cases gx with
  | false =>
    rw [if_neg (by simp), if_neg (by simp)] at h1
    rw [if_neg (by simp), if_neg (by simp)]
    clear hcl hr hw
    go_enter Try.func24, Try.ntmps24
    go_wp2_with (go_at_call 21; refine h1.mono ?_; rintro e w1 ⟨v1, rfl, ho1, hb1⟩; have HO1 := Lib.hid ho1; clear ho1)
    go_ret2
    exact ⟨rfl, hb1⟩
  | true =>
    rw [if_pos rfl, if_pos rfl] at h1
    rw [if_pos rfl, if_pos rfl]
    have hcl := hcl rfl
    generalize hC : adjB cx = C
    have HC := Lib.hid hC
    have HCL := Lib.hid hcl
    clear hr hw hC hcl
    go_enter Try.func24, Try.ntmps24
    go_wp2_with (go_at_call 21; refine h1.mono ?_; rintro e w1 ⟨v1, rfl, ho1, hb1⟩; obtain ⟨A1, c1, rfl, hn1, hm1, hr1⟩ := ho1.rd; have HR1 := Lib.hid hr1; have HB1 := Lib.hid hb1; clear ho1 hr1 hb1 h1)
    unfold maxLen at hm1
    go_loopw [6] (fun x wr => ∃ (k q : Nat), k ≤ cx.length ∧ x = .int .i64 ((k : Int) + 1) ∧ adjB (cx.drop k) = C ∧ wr = w1.drewN q) (fun x _ => cx.length + 1 - (intOf x).toNat)
    case atStart => exact ⟨0, 0, Nat.zero_le _, rfl, by rw [List.drop_zero]; exact HC.out, rfl⟩
    case round =>
      obtain ⟨k, q, hk, rfl, hC, rfl⟩ := hrel
      by_cases hlt : k + 1 < cx.length
      · have hlt' : (k : Int) + 1 < (cx.length : Int) := by omega
        obtain ⟨b, off, rfl, hc1⟩ := HR1.out.int k (by omega) rfl
        obtain ⟨b', off', e, hc2⟩ := HR1.out.int (k + 1) hlt rfl
        injection e with e
        injection e with e1 e2
        subst e1 e2
        obtain ⟨hz, hl1, hl2⟩ := HCL.out _ (getD_mem cx k (by omega))
        rw [drop_getD cx k (by omega), drop_getD cx (k + 1) hlt, adjB_cons] at hC
        have hd := drop_getD cx (k + 1) hlt
        generalize hx : cx.getD k 0 = x at *
        generalize hy : cx.getD (k + 1) 0 = y at *
        have hi0 : (0 : Int) ≤ (k : Int) + 1 := by omega
        have hi1 : (k : Int) < (cx.length : Int) := by omega
        have hi2 : (0 : Int) ≤ (k : Int) := by omega
        have hk3 : k < 9223372036854775806 := by omega
        have en : ((k : Int) + 1).toNat = k + 1 := by omega
        have es : IntKind.i64.wrap ((k : Int) + 1 - 1) = k := by rw [show (k : Int) + 1 - 1 = k by omega]; exact IntWalk.i64_in _ (by omega)
        have ew : IntKind.i64.wrap (-x) = -x := IntWalk.i64_in _ (by omega)
        have HD := Lib.hid hd
        clear hx hy hd
        by_cases hm : y = -x
        · rw [if_pos hm] at hC
          subst hC
          subst hm
          go_wp2_with fail
          go_quiet (fail)
          go_wp2_with fail
          go_ret2
          exact ⟨rfl, below_drewN (below_drewN HB1.out _) _⟩
        · rw [if_neg hm] at hC
          have hm' : (y == -x) = false := by simpa using hm
          have HCC := Lib.hid hC
          clear hC
          go_wp2_with fail
          go_quiet (fail)
          go_wp2_with fail
          refine ⟨⟨k + 1, q + nq, by omega, by go_num, by rw [HD.out]; exact HCC.out, rfl⟩, by simp [intOf]; omega⟩
      · have hsh := adjB_short (cx.drop k) (by rw [List.length_drop]; omega)
        rw [hsh] at hC
        subst hC
        clear hsh
        have hlt' : ¬ (k : Int) + 1 < (cx.length : Int) := by omega
        have hk3 : k < 9223372036854775806 := by omega
        go_wp2_with fail
        go_ret2
        exact ⟨rfl, below_drewN HB1.out _⟩

set_option maxRecDepth 100000 in
set_option maxHeartbeats 4000000 in
theorem within_any (xs ys : List Int) (A A2 : Option Addr) (n c m c2 : Nat) (w : World) (hl : xs.length = n) (hnc : n ≤ c) (hn : n ≤ 1000000) (hr : Rd w 1 A n (ints xs)) (hw : ∀ l ∈ xs, IsI64 l)
    (hl2 : ys.length = m) (hnc2 : m ≤ c2) (hm : m ≤ 1000000) (hr2 : Rd w 1 A2 m (ints ys)) (hw2 : ∀ l ∈ ys, IsI64 l) :
    Calls Try.prog 25 #[.slice A n c, .slice A2 m c2] w fun e w' => e = .returned (.tuple #[.bool (if bothG xs ys = true then (canonI xs).all (fun l => hasB (canonI ys) l) else false), .int .i64 (if bothG xs ys = true then 0 else 4)]) ∧ Below w.heap.size w w' := by
  have h1 := both_any xs ys A A2 n c m c2 w hl hnc hn hr hw hl2 hnc2 hm hr2 hw2
  have hlen := canonI_len xs
  have hlen2 := canonI_len ys
  generalize canonI xs = cx at *
  generalize canonI ys = cy at *
  generalize bothG xs ys = gx at *
  clear hr hr2 hw hw2
  cases gx with
  | false =>
    rw [if_neg (by simp), if_neg (by simp), if_neg (by simp)] at h1
    rw [if_neg (by simp), if_neg (by simp)]
    go_enter Try.func25, Try.ntmps25
    go_wp2_with (go_at_call 40; refine h1.mono ?_; rintro e w1 ⟨v1, v2, rfl, ho1, ho2, hb1⟩; have HO1 := Lib.hid ho1; have HO2 := Lib.hid ho2; clear ho1 ho2)
    go_ret2
    exact ⟨rfl, hb1⟩
  | true =>
    rw [if_pos rfl, if_pos rfl, if_pos rfl] at h1
    rw [if_pos rfl, if_pos rfl]
    generalize hC : cx.all (fun l => hasB cy l) = C
    have HC := Lib.hid hC
    clear hC
    go_enter Try.func25, Try.ntmps25
    go_wp2_with (go_at_call 40; refine h1.mono ?_; rintro e w1 ⟨v1, v2, rfl, ho1, ho2, hb1⟩; obtain ⟨A1, c1, rfl, hn1, hm1, hr1⟩ := ho1.rd; have HR1 := Lib.hid hr1; obtain ⟨A5, c5, rfl, hn5, hm5, hr5⟩ := ho2.rd; have HR5 := Lib.hid hr5; clear ho1 hr1 ho2 hr5 h1)
    unfold maxLen at hm1
    go_loop [23] (fun x => ∃ (i : Nat), i ≤ cx.length ∧ x = .int .i64 i ∧ (cx.drop i).all (fun l => hasB cy l) = C) (fun x => cx.length - (intOf x).toNat)
    case atStart => exact ⟨0, Nat.zero_le _, rfl, by rw [List.drop_zero]; exact HC.out⟩
    case round =>
      obtain ⟨i, hi', rfl, hC⟩ := hrel
      by_cases hlt : i < cx.length
      · obtain ⟨b, off, rfl, hc⟩ := HR1.out.int i hlt rfl
        rw [drop_getD cx i hlt, List.all_cons] at hC
        generalize cx.getD i 0 = l at *
        have hct := contains_any cy A5 cy.length c5 l w1 rfl (by unfold maxLen; omega) HR5.out
        cases hh : hasB cy l with
        | true =>
          rw [hh] at hct hC
          rw [Bool.true_and] at hC
          have HCC := Lib.hid hC
          clear hC hh
          go_wp2_with (go_at_call 41; refine hct.mono ?_; rintro e w' ⟨rfl, hw⟩; obtain rfl := hw.symm)
          go_round
          case rel => exact ⟨i + 1, by omega, by go_num, HCC.out⟩
          case measure => simp [intOf]; omega
        | false =>
          rw [hh] at hct hC
          rw [Bool.false_and] at hC
          subst hC
          clear hh
          go_wp2_with (go_at_call 41; refine hct.mono ?_; rintro e w' ⟨rfl, hw⟩; obtain rfl := hw.symm)
          go_ret2
          exact ⟨rfl, hb1⟩
      · obtain rfl : i = cx.length := by omega
        rw [List.drop_of_length_le (Nat.le_refl _), List.all_nil] at hC
        subst hC
        go_wp2_with fail
        go_ret2
        exact ⟨rfl, hb1⟩

/-- is the literal true? -/
def holdL (vals : List Bool) (l : Int) : Bool := (if l.natAbs ≤ vals.length then vals.getD (l.natAbs - 1) false else false) == decide (0 < l)
theorem boolAt {w : World} {A : Option Addr} {n : Nat} {vals : List Bool} (h : Rd w 1 A n (boolL vals)) (k : Nat) (hk : k < n) (hl : vals.length = n) : ∃ b off, A = some ⟨b, off, none⟩ ∧ w.cell? ⟨b, off + k, none⟩ = some (.bool (vals.getD k false)) := by
  obtain ⟨b, off, u, e, hu, hc⟩ := h.at_ hk
  refine ⟨b, off, e, ?_⟩
  rw [hc]
  simp only [boolL, List.getElem?_map] at hu
  rw [List.getElem?_eq_getElem (by omega)] at hu
  simp at hu
  rw [← hu, List.getD_eq_getElem?_getD, List.getElem?_eq_getElem (by omega)]
  rfl
set_option maxRecDepth 100000 in
set_option maxHeartbeats 4000000 in
theorem holds_any (xs : List Int) (A : Option Addr) (n c : Nat) (vals : List Bool) (A2 : Option Addr) (n2 c2 : Nat) (w : World) (hl : xs.length = n) (hnc : n ≤ c) (hn : n ≤ 1000000) (hr : Rd w 1 A n (ints xs)) (hw : ∀ l ∈ xs, IsI64 l)
    (hl2 : vals.length = n2) (hn2 : n2 ≤ maxLen) (hr2 : Rd w 1 A2 n2 (boolL vals)) :
    Calls Try.prog 22 #[.slice A n c, .slice A2 n2 c2] w fun e w' => e = .returned (.tuple #[.bool (if goodB xs = true then (canonI xs).any (holdL vals) else false), .int .i64 (if goodB xs = true then 0 else 4)]) ∧ Below w.heap.size w w' := by
  have h1 := canon_any xs A n c w hl hnc hn hr hw
  have hcl : goodB xs = true → ∀ l ∈ canonI xs, IsLit l := fun h => canon_lits (good_lit h hw)
  have hlen := canonI_len xs
  unfold maxLen at hn2
  generalize canonI xs = cx at *
  generalize goodB xs = gx at *
  cases gx with
  | false =>
    rw [if_neg (by simp), if_neg (by simp)] at h1
    rw [if_neg (by simp), if_neg (by simp)]
    clear hcl hr hw hr2
    go_enter Try.func22, Try.ntmps22
    go_wp2_with (go_at_call 21; refine h1.mono ?_; rintro e w1 ⟨v1, rfl, ho1, hb1⟩; have HO1 := Lib.hid ho1; clear ho1)
    go_ret2
    exact ⟨rfl, hb1⟩
  | true =>
    rw [if_pos rfl, if_pos rfl] at h1
    rw [if_pos rfl, if_pos rfl]
    have hcl := hcl rfl
    generalize hC : cx.any (holdL vals) = C
    have HC := Lib.hid hC
    have HCL := Lib.hid hcl
    have HR2 := Lib.hid hr2
    clear hr hw hC hcl hr2
    go_enter Try.func22, Try.ntmps22
    go_wp2_with (go_at_call 21; refine h1.mono ?_; rintro e w1 ⟨v1, rfl, ho1, hb1⟩; obtain ⟨A1, c1, rfl, hn1, hm1, hr1⟩ := ho1.rd; have HR1 := Lib.hid hr1; have HRV := Lib.hid (HR2.out.below hb1); clear ho1 hr1 h1)
    unfold maxLen at hm1
    go_loop [21] (fun x => ∃ (i : Nat), i ≤ cx.length ∧ x = .int .i64 i ∧ (cx.drop i).any (holdL vals) = C) (fun x => cx.length - (intOf x).toNat)
    case atStart => exact ⟨0, Nat.zero_le _, rfl, by rw [List.drop_zero]; exact HC.out⟩
    case round =>
      obtain ⟨i, hi', rfl, hC⟩ := hrel
      by_cases hlt : i < cx.length
      · obtain ⟨b, off, rfl, hc⟩ := HR1.out.int i hlt rfl
        obtain ⟨hz, hl1, hl2'⟩ := HCL.out _ (getD_mem cx i hlt)
        rw [drop_getD cx i hlt, List.any_cons] at hC
        generalize cx.getD i 0 = l at *
        have hs := size_lit l w1 hl1 hl2'
        have hp := natAbs_pos hz
        have hhl : holdL vals l = ((if l.natAbs ≤ vals.length then vals.getD (l.natAbs - 1) false else false) == decide (0 < l)) := rfl
        rw [hl2] at hhl
        have hk2 : l.natAbs ≤ 9223372036854775807 := by omega
        generalize holdL vals l = hv at *
        by_cases hin : l.natAbs ≤ n2
        · rw [if_pos hin] at hhl
          obtain ⟨b2, off2, rfl, hc2⟩ := boolAt HRV.out (l.natAbs - 1) (by omega) hl2
          have hin' : ((l.natAbs : Nat) : Int) ≤ (n2 : Int) := by omega
          have hsub : ((l.natAbs - 1 : Nat) : Int) = (l.natAbs : Int) - 1 := by omega
          generalize vals.getD (l.natAbs - 1) false = u at *
          generalize l.natAbs = k at *
          subst hhl
          obtain ⟨k', rfl⟩ : ∃ k', k = k' + 1 := ⟨k - 1, by omega⟩
          rw [show k' + 1 - 1 = k' by omega] at hc2
          rw [show ((k' + 1 : Nat) : Int) = (k' : Int) + 1 by omega] at *
          clear hsub
          cases hv : (u == decide (0 < l)) with
          | true =>
            rw [hv, Bool.true_or] at hC
            subst hC
            go_wp2_with (go_at_call 43; refine hs.mono ?_; rintro e w' ⟨rfl, hw⟩; obtain rfl := hw.symm)
            go_ret2
            exact ⟨rfl, hb1⟩
          | false =>
            rw [hv, Bool.false_or] at hC
            have HCC := Lib.hid hC
            clear hC
            go_wp2_with (go_at_call 43; refine hs.mono ?_; rintro e w' ⟨rfl, hw⟩; obtain rfl := hw.symm)
            go_round
            case rel => exact ⟨i + 1, by omega, by go_num, HCC.out⟩
            case measure => simp [intOf]; omega
        · rw [if_neg hin] at hhl
          have hin' : ¬ ((l.natAbs : Nat) : Int) ≤ (n2 : Int) := by omega
          generalize l.natAbs = k at *
          subst hhl
          cases hv : (false == decide (0 < l)) with
          | true =>
            rw [hv, Bool.true_or] at hC
            subst hC
            go_wp2_with (go_at_call 43; refine hs.mono ?_; rintro e w' ⟨rfl, hw⟩; obtain rfl := hw.symm)
            go_ret2
            exact ⟨rfl, hb1⟩
          | false =>
            rw [hv, Bool.false_or] at hC
            have HCC := Lib.hid hC
            clear hC
            go_wp2_with (go_at_call 43; refine hs.mono ?_; rintro e w' ⟨rfl, hw⟩; obtain rfl := hw.symm)
            go_round
            case rel => exact ⟨i + 1, by omega, by go_num, HCC.out⟩
            case measure => simp [intOf]; omega
      · obtain rfl : i = cx.length := by omega
        rw [List.drop_of_length_le (Nat.le_refl _), List.any_nil] at hC
        subst hC
        go_wp2_with fail
        go_ret2
        exact ⟨rfl, hb1⟩
end Go.Proofs.Ytbcabcdgblmnkaa
