/- Contracts of attestref01 (layer 1's reference): those that work on lists of 64 bits. -/
import Derived.Test.YtffpjnabbmimgaaRefBits
import Derived.Test.YtffpjnabbmimgaaBitMath3
import Derived.Test.YtffpjnabbmimgaaBitsA
import Derived.BigQuiet
import Derived.Deep.QuietTactic
namespace Go.Proofs.Ytffpjnabbmimgaa
open Go.RowKit

theorem width_any (k : Int) (w : World) :
    Calls Try.prog 45 #[.int .i64 k] w fun e w' => e = .returned (.tuple #[.int .i64 (widthOf k), .bool (signedOf k)]) ∧ w = w' := by
  rcases kinds k with h | rfl | rfl | rfl | rfl | rfl | rfl | rfl | rfl
  · have hs : signedOf k = false := by have := width_0 k h; unfold signedOf; simp; omega
    obtain ⟨a1, a2, a3, a4, a5, a6, a7, a8⟩ := width_0 k h
    rw [h, hs]
    go_enter Try.func45, Try.ntmps45
    go_wp2
    go_ret2
    exact ⟨rfl, rfl⟩
  all_goals
    go_enter Try.func45, Try.ntmps45
    go_wp2
    go_ret2
    exact ⟨rfl, rfl⟩

theorem rwrap_any (k : Int) (X : Nat) (w : World) (hX : X ≤ 18446744073709551615) :
    Calls Try.prog 13 #[.int .i64 k, .int .u64 X] w fun e w' => e = .returned (.tuple #[.int .u64 (wrapOf k X : Nat), .bool (decide (widthOf k ≠ 0))]) ∧ Below w.heap.size w w' := by
  have hle := width_le k
  have hval : widthOf k ≠ 0 → wrapOf k X = ofBits (row (wl X (widthOf k) (signedOf k) 64)) := fun h => by unfold wrapOf; rw [if_neg h]
  have hval0 : widthOf k = 0 → wrapOf k X = 0 := fun h => by unfold wrapOf; rw [if_pos h]
  have hwid := width_any k w
  generalize widthOf k = W at *
  generalize hs : signedOf k = s at *
  generalize wrapOf k X = Y at *
  clear hs
  by_cases h0 : W = 0
  · subst h0
    rw [hval0 rfl]
    clear hval hval0
    go_enter Try.func13, Try.ntmps13
    go_wp2_with fail
    refine hwid.mono ?_
    rintro e w' ⟨rfl, rfl⟩
    go_wp2
    go_ret2
    exact ⟨rfl, Below.refl _ _⟩
  · rw [hval h0]
    clear hval hval0
    have hd : decide (W ≠ 0) = true := by simpa using h0
    rw [hd]
    clear hd
    have h1 : 1 ≤ W := by omega
    have hb0 : ((W : Int) == 0) = false := by simpa using h0
    clear h0
    go_enter Try.func13, Try.ntmps13
    go_wp2_with fail
    refine hwid.mono ?_
    rintro e w' ⟨rfl, rfl⟩
    clear hwid
    go_wp2_with fail
    refine (rbits_any X _ hX).mono ?_
    rintro e w1 ⟨v, rfl, hown, hb⟩
    obtain ⟨g, c, rfl, hg, _, _⟩ := owned_form hown (by omega)
    have hown0 : w1.ownsRow w.heap.size 4 1 (.slice (some ⟨g, 0, none⟩) 64 c) 64 ((row (wl X W s W)).map Value.bool) := by rw [wl_start]; exact hown
    clear hown
    go_wp2_with fail
    go_loopw [9] (fun i wr => ∃ k : Nat, W ≤ k ∧ k ≤ 64 ∧ i = .int .i64 k ∧ wr.ownsRow w.heap.size 4 1 (.slice (some ⟨g, 0, none⟩) 64 c) 64 ((row (wl X W s k)).map Value.bool) ∧ Below w.heap.size w wr)
      (fun i _ => 64 - (intOf i).toNat)
    case atStart => exact ⟨W, Nat.le_refl _, hle, rfl, hown0, hb⟩
    case round =>
      clear hown0 hb
      obtain ⟨k, hk1, hk2, rfl, hown, hb⟩ := hrel
      by_cases hk : k < 64
      · have c1 := (hown.cellAt (W - 1) (by omega)).trans (show _ = some (Value.bool (X.testBit (W - 1))) by rw [List.getElem?_map, row_get _ _ (by omega), wl_last X W s k h1 hk1]; rfl)
        have c2 := (hown.cellAt k (by omega)).trans (show _ = some (Value.bool (wl X W s k k)) by rw [List.getElem?_map, row_get _ _ (by omega)]; rfl)
        have f2 := hown.frozenAt k
        have hst := (hown.stored k (.bool (s && X.testBit (W - 1)))).1
        rw [← List.map_set, wl_step X W s k hk1 hk] at hst
        have hb2 := hb.setCell (p := ⟨g, k, none⟩) hg (.bool (s && X.testBit (W - 1)))
        clear hown hb
        cases s
        all_goals
          go_wp2_with fail
          go_roundw
          case rel => exact ⟨k + 1, by omega, by omega, by go_num, hst, hb2⟩
          case measure => simp [intOf]; omega
      · obtain rfl : k = 64 := by omega
        obtain ⟨A, c', hv, _, hrd⟩ := ownsRow_form hown
        injection hv with hA _ hc'
        subst hA; subst hc'
        go_wp2_with fail
        refine (rfrom_any (row (wl X W s 64)) 64 _ c wr (row_length _) (by rw [row_length]; omega) hrd).mono ?_
        rintro e w' ⟨rfl, rfl⟩
        go_wp2
        go_ret2
        exact ⟨rfl, hb⟩
theorem rmove_any (X : Nat) (n : Int) (fill : Bool) (w : World) (hX : X ≤ 18446744073709551615) (hn1 : -9223372036854775808 ≤ n) (hn2 : n ≤ 9223372036854775807) :
    Calls Try.prog 21 #[.int .u64 X, .int .i64 n, .bool fill] w fun e w' => e = .returned (.int .u64 (mvOf X n fill : Nat)) ∧ Below w.heap.size w w' := by
  obtain ⟨i0, hi, hz0, hz1, hz2⟩ := info_parts info_bool
  go_enter Try.func21, Try.ntmps21
  go_wp2_with fail
  refine (rbits_any X _ hX).mono ?_
  rintro e w1 ⟨v, rfl, hown, hb⟩
  obtain ⟨g, c, rfl, hg, hg2, _⟩ := owned_form hown (by omega)
  go_wp2_with (at_make; refine make1 w.heap.size w w1 rfl _ _ 66 rfl 4 i0 (.bool false) 1 Try.underlying66 hi hz0 hz1 hz2 rfl (by decide) .i64 .i64 64 64 64 rfl rfl rfl rfl (by decide) ((row (ml X n fill 0)).map Value.bool) (by rw [← ml_start]; rfl) (Nat.le_refl _) hb ?_)
  intro w2 hown2 hb2 hbb
  have hown1 := hown.kept hbb (by simp [Value.ownBlock])
  have hsrc : ∀ j, j < 64 → w2.cell? ⟨g, j, none⟩ = some (.bool (X.testBit j)) := fun j hj => (hown1.cellAt j (by omega)).trans (by rw [List.getElem?_map, bitsOf_get _ _ _ hj]; rfl)
  clear hown hown1
  go_wp2_with fail
  go_loopw [9] (fun i wr => ∃ k : Nat, k ≤ 64 ∧ i = .int .i64 k ∧ wr.ownsRow w1.heap.size 4 1 (.slice (some ⟨w1.heap.size, 0, none⟩) 64 64) 64 ((row (ml X n fill k)).map Value.bool) ∧ Below w.heap.size w wr ∧ (∀ j, j < 64 → wr.cell? ⟨g, j, none⟩ = some (.bool (X.testBit j))))
    (fun i _ => 64 - (intOf i).toNat)
  case atStart => exact ⟨0, by omega, rfl, hown2, hb2, hsrc⟩
  case round =>
    clear hown2 hb2 hsrc hbb
    obtain ⟨k, hk1, rfl, hown, hbr, hsrc⟩ := hrel
    have hsz1 := hb.size
    by_cases hk : k < 64
    · have c2 := (hown.cellAt k (by omega)).trans (show _ = some (Value.bool (ml X n fill k k)) by rw [List.getElem?_map, row_get _ _ (by omega)]; rfl)
      have f2 := hown.frozenAt k
      have hstep : ∀ b, mv X n fill k = b → (wr.setCell ⟨w1.heap.size, k, none⟩ (.bool b)).ownsRow w1.heap.size 4 1 (.slice (some ⟨w1.heap.size, 0, none⟩) 64 64) 64 ((row (ml X n fill (k + 1))).map Value.bool) ∧ Below w.heap.size w (wr.setCell ⟨w1.heap.size, k, none⟩ (.bool b)) ∧ (∀ j, j < 64 → (wr.setCell ⟨w1.heap.size, k, none⟩ (.bool b)).cell? ⟨g, j, none⟩ = some (.bool (X.testBit j))) := by
        intro b hb'
        have hst := (hown.stored k (.bool b)).1
        rw [← List.map_set, ml_step X n fill k b hk hb'] at hst
        exact ⟨hst, hbr.setCell (p := ⟨w1.heap.size, k, none⟩) hsz1 _, fun j hj => (World.cell?_setCell_other _ _ _ _ (by simp; try omega)).trans (hsrc j hj)⟩
      clear hown hbr
      have HS := Lib.hid hstep; clear hstep
      have HC := Lib.hid hsrc; clear hsrc
      by_cases a1 : 64 ≤ n
      · have R := Lib.hid (HS.out false (by unfold mv; rw [if_pos a1]))
        go_wp2_with fail
        go_roundw
        case rel => exact ⟨k + 1, by omega, by go_num, R.out.1, R.out.2.1, R.out.2.2⟩
        case measure => simp [intOf]; omega
      · by_cases a2 : n ≤ -64
        · have R := Lib.hid (HS.out fill (by unfold mv; rw [if_neg a1, if_pos a2]))
          go_wp2_with fail
          go_roundw
          case rel => exact ⟨k + 1, by omega, by go_num, R.out.1, R.out.2.1, R.out.2.2⟩
          case measure => simp [intOf]; omega
        · by_cases a3 : 0 ≤ n
          · obtain ⟨m, rfl⟩ := Int.eq_ofNat_of_zero_le a3
            by_cases a4 : m ≤ k
            · have R := Lib.hid (HS.out (X.testBit (k - m)) (by unfold mv; rw [if_neg a1, if_neg a2, if_pos a3]; simp [a4]))
              have hcc := HC.out (k - m) (by omega)
              have hmx : max ((k : Int) - m) 0 = (k : Int) - m := by omega
              go_wp2_with fail
              go_roundw
              case rel => exact ⟨k + 1, by omega, by go_num, R.out.1, R.out.2.1, R.out.2.2⟩
              case measure => simp [intOf]; omega
            · have R := Lib.hid (HS.out false (by unfold mv; rw [if_neg a1, if_neg a2, if_pos a3]; simp [a4]))
              go_wp2_with fail
              go_roundw
              case rel => exact ⟨k + 1, by omega, by go_num, R.out.1, R.out.2.1, R.out.2.2⟩
              case measure => simp [intOf]; omega
          · by_cases a4 : (k : Int) - n < 64
            · have R := Lib.hid (HS.out (X.testBit (k + (-n).toNat)) (by unfold mv; rw [if_neg a1, if_neg a2, if_neg a3, if_pos a4]))
              have hcc := HC.out (k + (-n).toNat) (by omega)
              have he : ((k : Int) - n).toNat = k + (-n).toNat := by omega
              go_wp2_with fail
              go_roundw
              case rel => exact ⟨k + 1, by omega, by go_num, R.out.1, R.out.2.1, R.out.2.2⟩
              case measure => simp [intOf]; omega
            · have R := Lib.hid (HS.out fill (by unfold mv; rw [if_neg a1, if_neg a2, if_neg a3, if_neg a4]))
              go_wp2_with fail
              go_roundw
              case rel => exact ⟨k + 1, by omega, by go_num, R.out.1, R.out.2.1, R.out.2.2⟩
              case measure => simp [intOf]; omega
    · obtain rfl : k = 64 := by omega
      obtain ⟨A, c', hv, _, hrd⟩ := ownsRow_form hown
      injection hv with hA _ hc'
      subst hA; subst hc'
      go_wp2_with fail
      refine (rfrom_any (row (ml X n fill 64)) 64 _ 64 wr (row_length _) (by rw [row_length]; omega) hrd).mono ?_
      rintro e w' ⟨rfl, rfl⟩
      go_wp2
      go_ret
      exact ⟨ret_int (by rw [ml_end]), hbr⟩
theorem rturn_any (X : Nat) (n : Int) (w : World) (hX : X ≤ 4294967295) (hn1 : -9223372036854775808 ≤ n) (hn2 : n ≤ 9223372036854775807) :
    Calls Try.prog 19 #[.int .u32 X, .int .i64 n] w fun e w' => e = .returned (.int .u32 (rot X (n % 32).toNat : Nat)) ∧ Below w.heap.size w w' := by
  obtain ⟨i0, hi, hz0, hz1, hz2⟩ := info_parts info_bool
  have hk1 : 0 ≤ n % 32 := by omega
  have hk2 : n % 32 < 32 := by omega
  have hcase : (0 ≤ n.tmod 32 ∧ n.tmod 32 = n % 32) ∨ (n.tmod 32 < 0 ∧ n.tmod 32 + 32 = n % 32) := by
    by_cases h : 0 ≤ n
    · rw [Int.tmod_eq_emod_of_nonneg h]; omega
    · rw [Int.tmod_eq_emod]
      have e : ((Int.natAbs 32 : Nat) : Int) = 32 := rfl
      split
      · left; omega
      · right; rw [e]; omega
  generalize n % 32 = kk at *
  obtain ⟨K, rfl⟩ := Int.eq_ofNat_of_zero_le hk1
  generalize ht : n.tmod 32 = T at *
  have HT := Lib.hid ht; clear ht
  have hrg : -32 ≤ T ∧ T < 32 := by omega
  rw [Int.toNat_natCast]
  have hKlt : K < 32 := by omega
  have hwrap : wrap64 T = T := by unfold wrap64; omega
  have ht := HT.out
  rcases hcase with ⟨hp, hq⟩ | ⟨hp, hq⟩
  · subst hq
    clear hk1 hk2 hrg
    go_enter Try.func19, Try.ntmps19
    go_wp2_with fail
    refine (rbits_any X _ (by omega)).mono ?_
    rintro e w1 ⟨v, rfl, hown, hb⟩
    obtain ⟨g, c, rfl, hg, hg2, _⟩ := owned_form hown (by omega)
    go_wp2_with (at_make; refine make1 w.heap.size w w1 rfl _ _ 66 rfl 4 i0 (.bool false) 1 Try.underlying66 hi hz0 hz1 hz2 rfl (by decide) .i64 .i64 64 64 64 rfl rfl rfl rfl (by decide) ((row (tl X K 0)).map Value.bool) (by rw [← tl_start]; rfl) (Nat.le_refl _) hb ?_)
    intro w2 hown2 hb2 hbb
    have hown1 := hown.kept hbb (by simp [Value.ownBlock])
    have hsrc : ∀ j, j < 64 → w2.cell? ⟨g, j, none⟩ = some (.bool (X.testBit j)) := fun j hj => (hown1.cellAt j (by omega)).trans (by rw [List.getElem?_map, bitsOf_get _ _ _ hj]; rfl)
    clear hown hown1
    go_wp2_with fail
    go_loopw [8] (fun i wr => ∃ k : Nat, k ≤ 32 ∧ i = .int .i64 k ∧ wr.ownsRow w1.heap.size 4 1 (.slice (some ⟨w1.heap.size, 0, none⟩) 64 64) 64 ((row (tl X K k)).map Value.bool) ∧ Below w.heap.size w wr ∧ (∀ j, j < 64 → wr.cell? ⟨g, j, none⟩ = some (.bool (X.testBit j))))
      (fun i _ => 32 - (intOf i).toNat)
    case atStart => exact ⟨0, by omega, rfl, hown2, hb2, hsrc⟩
    case round =>
      clear hown2 hb2 hsrc hbb
      obtain ⟨k, hk1, rfl, hown, hbr, hsrc⟩ := hrel
      have hsz1 := hb.size
      by_cases hk : k < 32
      · have c2 := (hown.cellAt ((k + K) % 32) (by omega)).trans (show _ = some (Value.bool (tl X K k ((k + K) % 32))) by rw [List.getElem?_map, row_get _ _ (by omega)]; rfl)
        have f2 := hown.frozenAt ((k + K) % 32)
        have hst := (hown.stored ((k + K) % 32) (.bool (X.testBit k))).1
        rw [← List.map_set, tl_step X K k hKlt hk] at hst
        have hb3 := hbr.setCell (p := ⟨w1.heap.size, (k + K) % 32, none⟩) hsz1 (.bool (X.testBit k))
        have hsrc3 : ∀ j, j < 64 → (wr.setCell ⟨w1.heap.size, (k + K) % 32, none⟩ (.bool (X.testBit k))).cell? ⟨g, j, none⟩ = some (.bool (X.testBit j)) := fun j hj => (World.cell?_setCell_other _ _ _ _ (by simp; try omega)).trans (hsrc j hj)
        have hcc := hsrc k (by omega)
        have hmod1 : ((k : Int) + (K : Int)).tmod 32 = ((k + K) % 32 : Nat) := by rw [Int.tmod_eq_emod_of_nonneg (by omega)]; omega
        clear hown hbr hsrc
        have HS := Lib.hid hsrc3; clear hsrc3
        go_wp2_with fail
        go_roundw
        case rel => exact ⟨k + 1, by omega, by go_num, hst, hb3, HS.out⟩
        case measure => simp [intOf]; omega
      · obtain rfl : k = 32 := by omega
        obtain ⟨A, c', hv, _, hrd⟩ := ownsRow_form hown
        injection hv with hA _ hc'
        subst hA; subst hc'
        go_wp2_with fail
        refine (rfrom_any (row (tl X K 32)) 64 _ 64 wr (row_length _) (by rw [row_length]; omega) hrd).mono ?_
        rintro e w' ⟨rfl, rfl⟩
        have he := tl_end X K (by omega) hKlt
        have hrl := rot_lt X K (by omega) hKlt
        rw [he]
        go_wp2
        go_ret
        exact ⟨rfl, hbr⟩
  · obtain rfl : T = (K : Int) - 32 := by omega
    clear hq hk1 hk2 hrg
    have hwrap2 : wrap64 ((K : Int) - 32 + 32) = K := by unfold wrap64; omega
    go_enter Try.func19, Try.ntmps19
    go_wp2_with fail
    refine (rbits_any X _ (by omega)).mono ?_
    rintro e w1 ⟨v, rfl, hown, hb⟩
    obtain ⟨g, c, rfl, hg, hg2, _⟩ := owned_form hown (by omega)
    go_wp2_with (at_make; refine make1 w.heap.size w w1 rfl _ _ 66 rfl 4 i0 (.bool false) 1 Try.underlying66 hi hz0 hz1 hz2 rfl (by decide) .i64 .i64 64 64 64 rfl rfl rfl rfl (by decide) ((row (tl X K 0)).map Value.bool) (by rw [← tl_start]; rfl) (Nat.le_refl _) hb ?_)
    intro w2 hown2 hb2 hbb
    have hown1 := hown.kept hbb (by simp [Value.ownBlock])
    have hsrc : ∀ j, j < 64 → w2.cell? ⟨g, j, none⟩ = some (.bool (X.testBit j)) := fun j hj => (hown1.cellAt j (by omega)).trans (by rw [List.getElem?_map, bitsOf_get _ _ _ hj]; rfl)
    clear hown hown1
    go_wp2_with fail
    go_loopw [8] (fun i wr => ∃ k : Nat, k ≤ 32 ∧ i = .int .i64 k ∧ wr.ownsRow w1.heap.size 4 1 (.slice (some ⟨w1.heap.size, 0, none⟩) 64 64) 64 ((row (tl X K k)).map Value.bool) ∧ Below w.heap.size w wr ∧ (∀ j, j < 64 → wr.cell? ⟨g, j, none⟩ = some (.bool (X.testBit j))))
      (fun i _ => 32 - (intOf i).toNat)
    case atStart => exact ⟨0, by omega, rfl, hown2, hb2, hsrc⟩
    case round =>
      clear hown2 hb2 hsrc hbb
      obtain ⟨k, hk1, rfl, hown, hbr, hsrc⟩ := hrel
      have hsz1 := hb.size
      by_cases hk : k < 32
      · have c2 := (hown.cellAt ((k + K) % 32) (by omega)).trans (show _ = some (Value.bool (tl X K k ((k + K) % 32))) by rw [List.getElem?_map, row_get _ _ (by omega)]; rfl)
        have f2 := hown.frozenAt ((k + K) % 32)
        have hst := (hown.stored ((k + K) % 32) (.bool (X.testBit k))).1
        rw [← List.map_set, tl_step X K k hKlt hk] at hst
        have hb3 := hbr.setCell (p := ⟨w1.heap.size, (k + K) % 32, none⟩) hsz1 (.bool (X.testBit k))
        have hsrc3 : ∀ j, j < 64 → (wr.setCell ⟨w1.heap.size, (k + K) % 32, none⟩ (.bool (X.testBit k))).cell? ⟨g, j, none⟩ = some (.bool (X.testBit j)) := fun j hj => (World.cell?_setCell_other _ _ _ _ (by simp; try omega)).trans (hsrc j hj)
        have hcc := hsrc k (by omega)
        have hmod1 : ((k : Int) + (K : Int)).tmod 32 = ((k + K) % 32 : Nat) := by rw [Int.tmod_eq_emod_of_nonneg (by omega)]; omega
        clear hown hbr hsrc
        have HS := Lib.hid hsrc3; clear hsrc3
        go_wp2_with fail
        go_roundw
        case rel => exact ⟨k + 1, by omega, by go_num, hst, hb3, HS.out⟩
        case measure => simp [intOf]; omega
      · obtain rfl : k = 32 := by omega
        obtain ⟨A, c', hv, _, hrd⟩ := ownsRow_form hown
        injection hv with hA _ hc'
        subst hA; subst hc'
        go_wp2_with fail
        refine (rfrom_any (row (tl X K 32)) 64 _ 64 wr (row_length _) (by rw [row_length]; omega) hrd).mono ?_
        rintro e w' ⟨rfl, rfl⟩
        have he := tl_end X K (by omega) hKlt
        have hrl := rot_lt X K (by omega) hKlt
        rw [he]
        go_wp2
        go_ret
        exact ⟨rfl, hbr⟩
theorem rfield_no (x a n : Int) (w : World) (h1 : -9223372036854775808 ≤ a) (h2 : a ≤ 9223372036854775807) (h : rangeOK a n = false) :
    Calls Try.prog 24 #[.int .u64 x, .int .i64 a, .int .i64 n] w fun e w' => e = .returned (.tuple #[.int .u64 0, .bool false]) ∧ w = w' := by
  go_enter Try.func24, Try.ntmps24
  go_wp2_with fail
  refine (rrange_any _ _ _ h1 h2).mono ?_
  rintro e w' ⟨rfl, rfl⟩
  go_wp2
  go_ret2
  exact ⟨rfl, rfl⟩
theorem rfield_yes (X A N : Nat) (w : World) (hX : X ≤ 18446744073709551615) (h : A + N ≤ 64) :
    Calls Try.prog 24 #[.int .u64 X, .int .i64 A, .int .i64 N] w fun e w' => e = .returned (.tuple #[.int .u64 (fieldOf X A N : Nat), .bool true]) ∧ Below w.heap.size w w' := by
  have hr : rangeOK A N = true := by unfold rangeOK; simp; omega
  have hf := rrange_any A N w (by omega) (by omega)
  rw [hr] at hf
  have hlist := field_list X A N h
  have hval := ofBits_bitsOf (X / 2 ^ A) N
  have HL := Lib.hid hlist
  have HV := Lib.hid hval
  clear hlist hval hr
  go_enter Try.func24, Try.ntmps24
  go_wp2_with fail
  refine hf.mono ?_
  rintro e w' ⟨rfl, rfl⟩
  go_wp2_with fail
  refine (rbits_any X _ hX).mono ?_
  rintro e w1 ⟨v, rfl, hown, hb⟩
  obtain ⟨A', c, rfl, hnc, hrd⟩ := ownsRow_form hown
  have hcut := (hrd.cut (k := A) (cap := c) (by omega) (by omega)).take (k := N) (by omega)
  rw [← List.map_drop, ← List.map_take, HL.out] at hcut
  clear hrd hown hf HL
  by_cases hcA : c = A
  all_goals
    first | rw [if_pos hcA] at hcut | rw [if_neg hcA] at hcut
    go_wp2_with fail
    refine (rfrom_any (bitsOf (X / 2 ^ A) N) N _ _ w1 (bitsOf_length _ _) (by rw [bitsOf_length]; omega) hcut).mono ?_
    rintro e w' ⟨rfl, rfl⟩
    go_wp2
    go_ret2
    exact ⟨ret_int_bool (by rw [HV.out]; rfl) rfl, hb⟩
theorem rput_no (x a n v : Int) (w : World) (h1 : -9223372036854775808 ≤ a) (h2 : a ≤ 9223372036854775807) (h : rangeOK a n = false) :
    Calls Try.prog 26 #[.int .u64 x, .int .i64 a, .int .i64 n, .int .u64 v] w fun e w' => e = .returned (.tuple #[.int .u64 0, .bool false]) ∧ w = w' := by
  go_enter Try.func26, Try.ntmps26
  go_wp2_with fail
  refine (rrange_any _ _ _ h1 h2).mono ?_
  rintro e w' ⟨rfl, rfl⟩
  go_wp2
  go_ret2
  exact ⟨rfl, rfl⟩
theorem rput_yes (X A N V : Nat) (w : World) (hX : X ≤ 18446744073709551615) (hV : V ≤ 18446744073709551615) (h : A + N ≤ 64) :
    Calls Try.prog 26 #[.int .u64 X, .int .i64 A, .int .i64 N, .int .u64 V] w fun e w' => e = .returned (.tuple #[.int .u64 (putOf X A N V : Nat), .bool true]) ∧ Below w.heap.size w w' := by
  have hr : rangeOK A N = true := by unfold rangeOK; simp; omega
  have hf := rrange_any A N w (by omega) (by omega)
  rw [hr] at hf
  clear hr
  go_enter Try.func26, Try.ntmps26
  go_wp2_with fail
  refine hf.mono ?_
  rintro e w' ⟨rfl, rfl⟩
  clear hf
  go_wp2_with fail
  refine (rbits_any X _ hX).mono ?_
  rintro e w1 ⟨v, rfl, hown, hb⟩
  obtain ⟨g, c, rfl, hg, hg2, _⟩ := owned_form hown (by omega)
  go_wp2_with fail
  refine (rbits_any V _ hV).mono ?_
  rintro e w2 ⟨v, rfl, hown2, hb2⟩
  obtain ⟨g2, c2, rfl, hg3, hg4, _⟩ := owned_form hown2 (by omega)
  have hown1 := hown.kept (row := none) ⟨hb2.os, hb2.tape, hb2.output, hb2.size, fun k hk _ => hb2.block k hk⟩ (by simp [Value.ownBlock])
  rw [row_bitsOf, put_start X A V] at hown1
  have hsrc : ∀ j, j < 64 → w2.cell? ⟨g2, j, none⟩ = some (.bool (V.testBit j)) := fun j hj => (hown2.cellAt j (by omega)).trans (by rw [List.getElem?_map, bitsOf_get _ _ _ hj]; rfl)
  have hb3 := hb.trans (hb2.mono hb.size)
  clear hown hown2 hb hb2
  go_wp2_with fail
  go_loopw [12] (fun i wr => ∃ k : Nat, k ≤ N ∧ i = .int .i64 k ∧ wr.ownsRow w.heap.size 4 1 (.slice (some ⟨g, 0, none⟩) 64 c) 64 ((row (putBit X A k V)).map Value.bool) ∧ Below w.heap.size w wr ∧ (∀ j, j < 64 → wr.cell? ⟨g2, j, none⟩ = some (.bool (V.testBit j))))
    (fun i _ => N - (intOf i).toNat)
  case atStart => exact ⟨0, by omega, rfl, hown1, hb3, hsrc⟩
  case round =>
    clear hown1 hb3 hsrc
    obtain ⟨k, hk1, rfl, hown, hbr, hsrc⟩ := hrel
    by_cases hk : k < N
    · have c2 := (hown.cellAt (A + k) (by omega)).trans (show _ = some (Value.bool (putBit X A k V (A + k))) by rw [List.getElem?_map, row_get _ _ (by omega)]; rfl)
      have f2 := hown.frozenAt (A + k)
      have hst := (hown.stored (A + k) (.bool (V.testBit k))).1
      rw [← List.map_set, put_step X A k V (by omega)] at hst
      have hb3 := hbr.setCell (p := ⟨g, A + k, none⟩) hg (.bool (V.testBit k))
      have hsrc3 : ∀ j, j < 64 → (wr.setCell ⟨g, A + k, none⟩ (.bool (V.testBit k))).cell? ⟨g2, j, none⟩ = some (.bool (V.testBit j)) := fun j hj => (World.cell?_setCell_other _ _ _ _ (by simp; try omega)).trans (hsrc j hj)
      have hcc := hsrc k (by omega)
      clear hown hbr hsrc
      have HS := Lib.hid hsrc3; clear hsrc3
      go_wp2_with fail
      go_roundw
      case rel => exact ⟨k + 1, by omega, by go_num, hst, hb3, HS.out⟩
      case measure => simp [intOf]; omega
    · obtain rfl : k = N := by omega
      obtain ⟨A', c', hv, _, hrd⟩ := ownsRow_form hown
      injection hv with hA _ hc'
      subst hA; subst hc'
      go_wp2_with fail
      refine (rfrom_any (row (putBit X A k V)) 64 _ c wr (row_length _) (by rw [row_length]; omega) hrd).mono ?_
      rintro e w' ⟨rfl, rfl⟩
      go_wp2
      go_ret2
      exact ⟨rfl, hbr⟩
end Go.Proofs.Ytffpjnabbmimgaa
