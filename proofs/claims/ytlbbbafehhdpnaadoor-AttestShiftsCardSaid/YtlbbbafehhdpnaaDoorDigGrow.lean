/- Contract of package digits: grow. -/
import Derived.Test.YtlbbbafehhdpnaaDoorNatDiv
import Derived.Test.YtlbbbafehhdpnaaDoorLongMath2
namespace Go.Proofs.YtlbbbafehhdpnaaDoor
open Go.RowKit
set_option linter.unusedVariables false
set_option linter.unusedSimpArgs false

def growP (xs : List Nat) (b mr : Nat) : Nat → List Nat × Nat
  | 0 => ([], mr)
  | i + 1 => ((growP xs b mr i).1 ++ [((growP xs b mr i).2 + xs.getD i 0 * b) % 4294967296], ((growP xs b mr i).2 + xs.getD i 0 * b) / 4294967296)
structure GrowOk (xs : List Nat) (b mr i : Nat) : Prop where
  len : (growP xs b mr i).1.length = i
  sm : small (growP xs b mr i).1
  carry : (growP xs b mr i).2 < 4294967296
  val : lv (growP xs b mr i).1 + 2 ^ (32 * i) * (growP xs b mr i).2 = lv (xs.take i) * b + mr
theorem grow_c (c x b : Nat) (hc : c < 4294967296) (hx : x < 4294967296) (hb : b < 4294967296) : c + x * b < 18446744073709551616 ∧ (c + x * b) / 4294967296 < 4294967296 := by
  have h1 : x * b ≤ 4294967295 * 4294967295 := Nat.mul_le_mul (by omega) (by omega)
  constructor <;> omega
theorem grow_ok (xs : List Nat) (b mr : Nat) (hs : small xs) (hb : b < 4294967296) (hm : mr < 4294967296) : ∀ i, i ≤ xs.length → GrowOk xs b mr i
  | 0, _ => ⟨rfl, small_nil, hm, by simp [growP, lv]⟩
  | i + 1, hi => by
    have h := grow_ok xs b mr hs hb hm i (by omega)
    obtain ⟨c1, c2⟩ := grow_c _ _ b h.carry (getD_lt hs i) hb
    refine ⟨by simp only [growP]; rw [List.length_append, h.len]; rfl, small_append.2 ⟨h.sm, by intro x hx; simp at hx; omega⟩, c2, ?_⟩
    have hv := h.val
    simp only [growP]
    rw [lv_append, h.len, lv_takeD xs i (by omega), pow_succ32, Nat.add_mul]
    have e := Nat.div_add_mod ((growP xs b mr i).2 + xs.getD i 0 * b) 4294967296
    generalize ((growP xs b mr i).2 + xs.getD i 0 * b) % 4294967296 = R at *
    generalize ((growP xs b mr i).2 + xs.getD i 0 * b) / 4294967296 = Q at *
    generalize (growP xs b mr i).2 = c at *
    generalize xs.getD i 0 = x at *
    generalize 2 ^ (32 * i) = P at *
    generalize lv (growP xs b mr i).1 = G at *
    generalize lv (xs.take i) = X at *
    have e2 : P * (4294967296 * Q + R) = P * (c + x * b) := by rw [e]
    rw [Nat.mul_add, Nat.mul_add, ← Nat.mul_assoc P, ← Nat.mul_assoc P] at e2
    simp only [lv, Nat.mul_zero, Nat.add_zero]
    omega
theorem grow_row (P xs : List Nat) (i y : Nat) (hP : P.length = i) (hi : i < xs.length) : (P ++ xs.drop i).set i y = (P ++ [y]) ++ xs.drop (i + 1) := by
  rw [List.set_append_right _ _ (by omega), hP, Nat.sub_self, List.drop_eq_getElem_cons hi, List.set_cons_zero, List.append_assoc]
  rfl
theorem grow_at (P xs : List Nat) (i : Nat) (hP : P.length = i) (hi : i < xs.length) : (P ++ xs.drop i).getD i 0 = xs.getD i 0 := by
  rw [List.getD_eq_getElem?_getD, List.getElem?_append_right (by omega), hP, Nat.sub_self, List.getElem?_drop, Nat.add_zero, ← List.getD_eq_getElem?_getD]
/-- the whole: the row with the carry behind it. -/
def growAll (xs : List Nat) (b mr : Nat) : List Nat := (growP xs b mr xs.length).1 ++ (if (growP xs b mr xs.length).2 = 0 then [] else [(growP xs b mr xs.length).2])
theorem growAll_ok (xs : List Nat) (b mr : Nat) (hs : small xs) (hb : b < 4294967296) (hm : mr < 4294967296) : small (growAll xs b mr) ∧ lv (growAll xs b mr) = lv xs * b + mr ∧ (growAll xs b mr).length ≤ xs.length + 1 := by
  have h := grow_ok xs b mr hs hb hm xs.length (Nat.le_refl _)
  have hv := h.val
  have hl := h.len
  have hc := h.carry
  rw [List.take_of_length_le (Nat.le_refl _)] at hv
  unfold growAll
  by_cases h0 : (growP xs b mr xs.length).2 = 0
  · rw [if_pos h0, List.append_nil]
    rw [h0, Nat.mul_zero, Nat.add_zero] at hv
    exact ⟨h.sm, hv, by omega⟩
  · rw [if_neg h0]
    refine ⟨small_append.2 ⟨h.sm, by intro x hx; simp at hx; omega⟩, ?_, by rw [List.length_append, hl]; exact Nat.le_refl _⟩
    rw [lv_append, hl]
    simp only [lv, Nat.mul_zero, Nat.add_zero]
    exact hv

theorem lw_lset (l : List Nat) (k y : Nat) : (lw l).set k (.int .u32 (y : Int)) = lw (l.set k y) := by simp [lw, List.map_set]
set_option maxRecDepth 100000 in
set_option maxHeartbeats 4000000 in
theorem grow_any (B : Nat) (v : Value) (n : Nat) (xs : List Nat) (b mr : Nat) (w : World) (hown : w.ownsRow B 25 1 v n (lw xs)) (hB : B ≤ w.heap.size) (hs : small xs) (hn : n ≤ 1000000000000) (hb : b < 4294967296) (hm : mr < 4294967296) :
    Calls Tryd.prog 46 #[v, .int .u32 (b : Int), .int .u32 (mr : Int)] w fun e w' => ∃ v', e = .returned v' ∧ ∃ L, w'.ownsRow B 25 1 v' L.length (lw L) ∧ small L ∧ lv L = lv xs * b + mr ∧ L.length ≤ n + 1 ∧ Fr (ownS v) w w' ∧ Below B w w' := by
  obtain ⟨i0, hi, hz0, hz1, hz2⟩ := info_parts info_u32
  have hxl : xs.length = n := by have := hown.1; rw [lw_length] at this; omega
  have hall := growAll_ok xs b mr hs hb hm
  have hok := fun i hi => grow_ok xs b mr hs hb hm i hi
  have HALL := Lib.hid hall
  have HOK := Lib.hid hok
  have HS := Lib.hid hs
  have HL := Lib.hid hxl
  clear hall hok hs
  by_cases hn0 : n = 0
  · obtain rfl : xs = [] := List.eq_nil_of_length_eq_zero (by omega)
    obtain ⟨A, c, rfl, _, _⟩ := ownsRow_form hown
    subst hn0
    have HOWN := Lib.hid hown
    have HBW := Lib.hid (Below.refl B w)
    have HF := Lib.hid (Fr.refl (ownS (.slice A 0 c)) w)
    have HLEN := Lib.hid (show (growP [] b mr 0).1.length = 0 from rfl)
    clear hown hxl
    go_enter Tryd.func46, Tryd.ntmps46
    go_wp2_with fail
    go_loopw [7, 14] (fun cy i wr => i = .int .i64 0 ∧ cy = .int .u64 (mr : Int) ∧ wr = w) (fun _ _ _ => 0)
    case atStart => exact ⟨rfl, rfl, rfl⟩
    case round =>
      obtain ⟨rfl, rfl, e⟩ := hrel
      obtain rfl := e
      have HCY := Lib.hid (show (growP [] b mr 0).2 = mr from rfl)
      by_cases h0 : mr ≤ 0
      · have hcz : ¬ ((mr : Int) > 0) := by omega
        go_wp2_with fail
        go_ret
        refine ⟨_, rfl, growAll [] b mr, ?_, HALL.out.1, HALL.out.2.1, by have := HALL.out.2.2; omega, HF.out, HBW.out⟩
        rw [growAll, HL.out, HCY.out, if_pos (show mr = 0 by omega), List.append_nil, HLEN.out]
        exact HOWN.out
      · have hcpos : (mr : Int) > 0 := by omega
        go_wp2_with (at_builtin; refine app1 B wr wr (.int .u32 (mr : Int)) 25 rfl _ _ 22 rfl i0 (.int .u32 0) 4 Tryd.underlying22 hi hz0 hz1 hz2 rfl (by decide) _ 0 _ rfl hB HOWN.out HBW.out rfl rfl (by omega) ?_)
        intro v6 w6 hown6 hb6 hg6
        have HOWN6 := Lib.hid hown6
        have HB6 := Lib.hid hb6
        have HG6 := Lib.hid hg6
        clear hown6 hb6 hg6
        go_wp2_with fail
        go_ret
        refine ⟨_, rfl, growAll [] b mr, ?_, HALL.out.1, HALL.out.2.1, by have := HALL.out.2.2; omega, HF.out.trans (Fr.of_grown HG6.out (fun k hk => .inl hk)) (fun b hb => .inl hb), HB6.out⟩
        rw [growAll, HL.out, HCY.out, if_neg (show ¬ mr = 0 by omega), lw_append, List.length_append, HLEN.out]
        exact HOWN6.out
  · obtain ⟨g, c, rfl, hg1, hg2, hc⟩ := owned_form hown (by omega)
    have HO0 := Lib.hid hown
    clear hown
    go_enter Tryd.func46, Tryd.ntmps46
    go_wp2_with fail
    go_loopw [7, 14] (fun cy i wr => ∃ q : Nat, q ≤ n ∧ i = .int .i64 (q : Int) ∧ cy = .int .u64 ((growP xs b mr q).2 : Nat) ∧ wr.ownsRow B 25 1 (.slice (some ⟨g, 0, none⟩) n c) n (lw ((growP xs b mr q).1 ++ xs.drop q)) ∧ Fr (ownS (.slice (some ⟨g, 0, none⟩) n c)) w wr ∧ Below B w wr) (fun _ i _ => n - (intOf i).toNat)
    case atStart => exact ⟨0, Nat.zero_le _, rfl, rfl, HO0.out, Fr.refl _ _, Below.refl _ _⟩
    case round =>
      obtain ⟨q, hq, rfl, rfl, hown, hfr, hbw⟩ := hrel
      have hgo := HOK.out q (by omega)
      have hgl := hgo.len
      have hcc := hgo.carry
      by_cases hlt : q < n
      · have hx := getD_lt HS.out q
        have hrl : ((growP xs b mr q).1 ++ xs.drop q).length = n := by rw [List.length_append, List.length_drop, hgl]; omega
        have x0 := (hown.cellAt q (by omega)).trans (lw_getD _ q (by rw [hrl]; exact hlt))
        rw [grow_at _ xs q hgl (by omega)] at x0
        have x1 := hown.frozenAt q
        have hnx : growP xs b mr (q + 1) = ((growP xs b mr q).1 ++ [((growP xs b mr q).2 + xs.getD q 0 * b) % 4294967296], ((growP xs b mr q).2 + xs.getD q 0 * b) / 4294967296) := rfl
        have hst := (hown.stored q (.int .u32 ((((growP xs b mr q).2 + xs.getD q 0 * b) % 4294967296 : Nat) : Int))).1
        rw [lw_lset, grow_row _ xs q _ hgl (by omega)] at hst
        obtain ⟨i1, i2, i3⟩ := prod_int (xs.getD q 0) b hx hb
        obtain ⟨c1, c2⟩ := grow_c _ _ b hcc hx hb
        have hfr2 := hfr.setCell ⟨g, q, none⟩ (.int .u32 ((((growP xs b mr q).2 + xs.getD q 0 * b) % 4294967296 : Nat) : Int)) (.inl rfl)
        have hbw2 := hbw.trans (Fr.below (S := fun x => x = g) ((Fr.refl _ wr).setCell ⟨g, q, none⟩ (.int .u32 ((((growP xs b mr q).2 + xs.getD q 0 * b) % 4294967296 : Nat) : Int)) (.inl rfl)) (Nat.le_trans hB hbw.size) (fun x hx => by omega))
        generalize xs.getD q 0 = x at *
        generalize growP xs b mr q = st at *
        obtain ⟨t, cc⟩ := st
        simp only at hcc x0 hnx hst i1 c1 c2 hfr2 hbw2
        have eN : ((cc + x * b : Nat) : Int) = (cc : Int) + (x : Int) * (b : Int) := by rw [Int.natCast_add, i3]
        have eR : (((cc + x * b) % 4294967296 : Nat) : Int) = ((cc : Int) + (x : Int) * (b : Int)) % 4294967296 := by rw [← eN]; rfl
        have eQ : (((cc + x * b) / 4294967296 : Nat) : Int) = ((cc : Int) + (x : Int) * (b : Int)) / 4294967296 := by rw [← eN]; rfl
        rw [eR] at hst hfr2 hbw2
        have HST := Lib.hid hst
        have HFR := Lib.hid hfr2
        have HBW2 := Lib.hid hbw2
        have HNX := Lib.hid hnx
        have HEQ := Lib.hid eQ
        clear hst hfr2 hbw2 hnx eR eQ eN hown hfr hbw hgo hrl
        go_wp2_with fail
        go_roundw
        case rel => exact ⟨q + 1, by omega, by go_num, by rw [HNX.out, HEQ.out], by rw [HNX.out]; exact HST.out, HFR.out, HBW2.out⟩
        case measure => simp [intOf]; omega
      · obtain rfl : q = n := by omega
        rw [List.drop_of_length_le (by omega), List.append_nil] at hown
        obtain ⟨cy, hcy⟩ : ∃ cy, (growP xs b mr q).2 = cy := ⟨_, rfl⟩
        have HCY := Lib.hid hcy
        rw [hcy] at hcc ⊢
        clear hcy
        have HLEN := Lib.hid hgl
        have HOWN := Lib.hid hown
        have HF := Lib.hid hfr
        have HBW := Lib.hid hbw
        clear hown hfr hbw hgo hgl
        by_cases h0 : cy ≤ 0
        · have hcz : ¬ ((cy : Int) > 0) := by omega
          go_wp2_with fail
          go_ret
          refine ⟨_, rfl, growAll xs b mr, ?_, HALL.out.1, HALL.out.2.1, by have := HALL.out.2.2; omega, HF.out, HBW.out⟩
          rw [growAll, HL.out, HCY.out, if_pos (show cy = 0 by omega), List.append_nil, HLEN.out]
          exact HOWN.out
        · have hcpos : (cy : Int) > 0 := by omega
          go_wp2_with (at_builtin; refine app1 B w wr (.int .u32 (cy : Int)) 25 rfl _ _ 22 rfl i0 (.int .u32 0) 4 Tryd.underlying22 hi hz0 hz1 hz2 rfl (by decide) _ q _ rfl hB HOWN.out HBW.out rfl rfl (by omega) ?_)
          intro v6 w6 hown6 hb6 hg6
          have HOWN6 := Lib.hid hown6
          have HB6 := Lib.hid hb6
          have HG6 := Lib.hid hg6
          clear hown6 hb6 hg6
          go_wp2_with fail
          go_ret
          refine ⟨_, rfl, growAll xs b mr, ?_, HALL.out.1, HALL.out.2.1, by have := HALL.out.2.2; omega, HF.out.trans (Fr.of_grown HG6.out (fun k hk => .inl hk)) (fun b hb => .inl hb), HB6.out⟩
          rw [growAll, HL.out, HCY.out, if_neg (show ¬ cy = 0 by omega), lw_append, List.length_append, HLEN.out]
          exact HOWN6.out
end Go.Proofs.YtlbbbafehhdpnaaDoor
