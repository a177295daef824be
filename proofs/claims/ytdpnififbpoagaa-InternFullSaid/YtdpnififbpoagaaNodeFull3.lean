/- attestlaw10.InternFull: the walk, at last. -/
import Derived.Test.YtdpnififbpoagaaNodeFull2
namespace Go.Proofs.Ytdpnififbpoagaa
open Go.RowKit
set_option linter.unusedVariables false
set_option linter.unusedSimpArgs false

set_option maxRecDepth 100000 in
set_option maxHeartbeats 8000000 in
theorem full_walk (n : Int) (w : World) :
    Calls Try.prog 12 #[.int .i64 n] w fun e w' => e = .returned (.bool true) ∧ Below w.heap.size w w' := by
  have haw := awake_any
  have N := new_tab w
  go_enter Try.func12, Try.ntmps12
  go_upto_region 4 with (go_at_call 33; refine N.mono ?_; rintro e w1 ⟨rfl, sv0, mb, ht, hb1, hmb, hsv⟩)
  have hs1 : w.heap.size ≤ w1.heap.size := hb1.size
  have b02 : Below w1.heap.size w1 (w1.alloc (.cells #[.slice none 0 0, .map none] 86)) := (Below.refl _ _).alloc (Nat.le_refl _) _
  have t0 : TabB w.heap.size w1 w.heap.size mb sv0 ns0 := ⟨ht, fun b hb => by
    rcases hb with rfl | rfl | hb
    · exact Nat.le_refl _
    · exact hmb
    · exact hsv b hb⟩
  have t1 := t0.below b02
  rw [← varN_zero] at t1
  have z1 : ZSt w.heap.size (w1.alloc (.cells #[.slice none 0 0, .map none] 86)) w1.heap.size (TS w.heap.size mb sv0) 0 := .inl ⟨rfl, heap_alloc_new w1 _, fun hT => Nat.lt_irrefl _ (ht.lt _ hT), hs1⟩
  have b1 : Below w.heap.size w (w1.alloc (.cells #[.slice none 0 0, .map none] 86)) := hb1.trans (b02.mono hs1)
  have HT0 := Lib.hid t1
  have HZ0 := Lib.hid z1
  have HB0 := Lib.hid b1
  clear ht hb1 hmb hsv b02 t0 t1 z1 b1 N
  by_cases hn : n < 0
  · go_wp2_with fail
    go_loopw [6] (fun x wr => ∃ (v : Nat) (sv : Value), v ≤ 50 ∧ x = .int .i64 v ∧ TabB w.heap.size wr w.heap.size mb sv (varN v) ∧ ZSt w.heap.size wr w1.heap.size (TS w.heap.size mb sv) v ∧ Below w.heap.size w wr) (fun x _ => 50 - (intOf x).toNat)
    case atStart => exact ⟨0, sv0, Nat.zero_le _, rfl, HT0.out, HZ0.out, HB0.out⟩
    case round =>
      obtain ⟨v, sv, hv, rfl, htk, hzk, hbk⟩ := hrel
      by_cases hlt : v < 50
      · have hd1 := tdo_any w.heap.size w.heap.size mb sv w1.heap.size v (varN v) ⟨3, (v : Int), 0⟩ wr hbk.size htk (varN_neg v) hzk
        rw [do_var] at hd1
        have hd2 := fun sv' w' hB h hz => zdo_any w.heap.size w.heap.size mb sv' w1.heap.size v (varN (v + 1)) w' hB h hz
        have e2 : ((v + 2 : Nat) : Int) = (v : Int) + 2 := by omega
        have hv9 : v < 19998 := by omega
        simp only [ansV, hv9, if_true, Option.getD_some, Option.isSome_some, e2] at hd1 hd2
        have hv9' : (v : Int) < 19998 := by omega
        have HD1 := Lib.hid hd1
        have HD2 := Lib.hid hd2
        have HB := Lib.hid hbk
        clear hd1 hd2 htk hzk hbk e2
        go_wp2_with (first | (go_at_call 22; refine HD1.out.mono ?_; clear HD1; rintro e w3 ⟨rfl, sv3, ht3, hz3, hb3⟩) | (go_at_call 22; refine (HD2.out _ _ (Nat.le_trans HB.out.size hb3.size) ht3 hz3).mono ?_; clear HD2; rintro e w4 ⟨rfl, ht4, hz4, hb4⟩))
        go_roundw
        case rel => exact ⟨v + 1, sv3, by omega, by go_num, ht4, hz4, HB.out.trans (hb3.trans hb4)⟩
        case measure => simp [intOf]; omega
      · obtain rfl : 50 = v := by omega
        clear hlt hv
        have hd := tdo_any w.heap.size w.heap.size mb sv w1.heap.size 50 (varN 50) ⟨3, 0, 0⟩ wr hbk.size htk (varN_neg 50) hzk
        rw [do_var0] at hd
        simp only [ansV, Option.getD_some, Option.isSome_some] at hd
        have hl : ((varN (max 50 1)).length : Int) = 52 := by rw [varN_length]; omega
        generalize varN (max 50 1) = ns at *
        have HD := Lib.hid hd
        have HB := Lib.hid hbk
        have HL := Lib.hid hl
        clear hd hbk htk hzk hl
        go_wp2_with (first | (go_at_call 22; refine HD.out.mono ?_; clear HD; rintro e w3 ⟨rfl, sv3, ht3, _, hb3⟩) | (go_at_call 22; refine (do_nil 2 0 0 _).mono ?_; rintro e w4 ⟨rfl, hb4⟩; have ht4 := ht3.tab.below hb4; have hb34 := hb3.trans (hb4.mono (Nat.le_trans HB.out.size hb3.size))) | (go_at_call 41; refine (node_nil _).mono ?_; rintro e w5 ⟨rfl, hb5⟩; have ht5 := ht4.below hb5) | (go_at_call 21; refine (eval_nil _).mono ?_; rintro e w6 ⟨rfl, hw6⟩; obtain rfl := hw6.symm) | (go_at_call 18; refine (haw _).mono ?_; rintro e w7 ⟨rfl, hb7⟩; have hL := len_old _ _ _ _ _ ((ht5.below ((Below.refl _ _).alloc (Nat.le_refl _) (.cells #[.int .i64 0, .int .i64 0, .int .i64 0] 33))).below hb7); rw [HL.out] at hL) | (go_at_call 20; refine hL.mono ?_; clear hL; rintro e w8 ⟨rfl, hw8⟩; obtain rfl := hw8.symm) | (go_at_call 20; refine (len_nil _).mono ?_; rintro e w9 ⟨rfl, hw9⟩; obtain rfl := hw9.symm) | (go_at_call 40; refine (reach_nil _).mono ?_; rintro e w10 ⟨rfl, hw10⟩; obtain rfl := hw10.symm))
        go_ret
        have b1 : Below w.heap.size w w4 := HB.out.trans hb34
        have b2 : Below w.heap.size w w5 := b1.trans (hb5.mono b1.size)
        exact ⟨rfl, (b2.alloc b2.size _).trans (hb7.mono (by have := b2.size; simp; omega))⟩
  by_cases hn2 : 20100 < n
  · go_wp2_with fail
    go_loopw [6] (fun x wr => ∃ (v : Nat) (sv : Value), v ≤ 50 ∧ x = .int .i64 v ∧ TabB w.heap.size wr w.heap.size mb sv (varN v) ∧ ZSt w.heap.size wr w1.heap.size (TS w.heap.size mb sv) v ∧ Below w.heap.size w wr) (fun x _ => 50 - (intOf x).toNat)
    case atStart => exact ⟨0, sv0, Nat.zero_le _, rfl, HT0.out, HZ0.out, HB0.out⟩
    case round =>
      obtain ⟨v, sv, hv, rfl, htk, hzk, hbk⟩ := hrel
      by_cases hlt : v < 50
      · have hd1 := tdo_any w.heap.size w.heap.size mb sv w1.heap.size v (varN v) ⟨3, (v : Int), 0⟩ wr hbk.size htk (varN_neg v) hzk
        rw [do_var] at hd1
        have hd2 := fun sv' w' hB h hz => zdo_any w.heap.size w.heap.size mb sv' w1.heap.size v (varN (v + 1)) w' hB h hz
        have e2 : ((v + 2 : Nat) : Int) = (v : Int) + 2 := by omega
        have hv9 : v < 19998 := by omega
        simp only [ansV, hv9, if_true, Option.getD_some, Option.isSome_some, e2] at hd1 hd2
        have hv9' : (v : Int) < 19998 := by omega
        have HD1 := Lib.hid hd1
        have HD2 := Lib.hid hd2
        have HB := Lib.hid hbk
        clear hd1 hd2 htk hzk hbk e2
        go_wp2_with (first | (go_at_call 22; refine HD1.out.mono ?_; clear HD1; rintro e w3 ⟨rfl, sv3, ht3, hz3, hb3⟩) | (go_at_call 22; refine (HD2.out _ _ (Nat.le_trans HB.out.size hb3.size) ht3 hz3).mono ?_; clear HD2; rintro e w4 ⟨rfl, ht4, hz4, hb4⟩))
        go_roundw
        case rel => exact ⟨v + 1, sv3, by omega, by go_num, ht4, hz4, HB.out.trans (hb3.trans hb4)⟩
        case measure => simp [intOf]; omega
      · obtain rfl : 50 = v := by omega
        clear hlt hv
        have hd := tdo_any w.heap.size w.heap.size mb sv w1.heap.size 50 (varN 50) ⟨3, 0, 0⟩ wr hbk.size htk (varN_neg 50) hzk
        rw [do_var0] at hd
        simp only [ansV, Option.getD_some, Option.isSome_some] at hd
        have hl : ((varN (max 50 1)).length : Int) = 52 := by rw [varN_length]; omega
        generalize varN (max 50 1) = ns at *
        have HD := Lib.hid hd
        have HB := Lib.hid hbk
        have HL := Lib.hid hl
        clear hd hbk htk hzk hl
        go_wp2_with (first | (go_at_call 22; refine HD.out.mono ?_; clear HD; rintro e w3 ⟨rfl, sv3, ht3, _, hb3⟩) | (go_at_call 22; refine (do_nil 2 0 0 _).mono ?_; rintro e w4 ⟨rfl, hb4⟩; have ht4 := ht3.tab.below hb4; have hb34 := hb3.trans (hb4.mono (Nat.le_trans HB.out.size hb3.size))) | (go_at_call 41; refine (node_nil _).mono ?_; rintro e w5 ⟨rfl, hb5⟩; have ht5 := ht4.below hb5) | (go_at_call 21; refine (eval_nil _).mono ?_; rintro e w6 ⟨rfl, hw6⟩; obtain rfl := hw6.symm) | (go_at_call 18; refine (haw _).mono ?_; rintro e w7 ⟨rfl, hb7⟩; have hL := len_old _ _ _ _ _ ((ht5.below ((Below.refl _ _).alloc (Nat.le_refl _) (.cells #[.int .i64 0, .int .i64 0, .int .i64 0] 33))).below hb7); rw [HL.out] at hL) | (go_at_call 20; refine hL.mono ?_; clear hL; rintro e w8 ⟨rfl, hw8⟩; obtain rfl := hw8.symm) | (go_at_call 20; refine (len_nil _).mono ?_; rintro e w9 ⟨rfl, hw9⟩; obtain rfl := hw9.symm) | (go_at_call 40; refine (reach_nil _).mono ?_; rintro e w10 ⟨rfl, hw10⟩; obtain rfl := hw10.symm))
        go_ret
        have b1 : Below w.heap.size w w4 := HB.out.trans hb34
        have b2 : Below w.heap.size w w5 := b1.trans (hb5.mono b1.size)
        exact ⟨rfl, (b2.alloc b2.size _).trans (hb7.mono (by have := b2.size; simp; omega))⟩
  · obtain ⟨m, rfl⟩ : ∃ m : Nat, n = m := ⟨n.toNat, by omega⟩
    have hm : m ≤ 20100 := by omega
    go_wp2_with fail
    go_loopw [6] (fun x wr => ∃ (v : Nat) (sv : Value), v ≤ m ∧ x = .int .i64 v ∧ TabB w.heap.size wr w.heap.size mb sv (varN v) ∧ ZSt w.heap.size wr w1.heap.size (TS w.heap.size mb sv) v ∧ Below w.heap.size w wr) (fun x _ => m - (intOf x).toNat)
    case atStart => exact ⟨0, sv0, Nat.zero_le _, rfl, HT0.out, HZ0.out, HB0.out⟩
    case round =>
      obtain ⟨v, sv, hv, rfl, htk, hzk, hbk⟩ := hrel
      by_cases hlt : v < m
      · have hd1 := tdo_any w.heap.size w.heap.size mb sv w1.heap.size v (varN v) ⟨3, (v : Int), 0⟩ wr hbk.size htk (varN_neg v) hzk
        rw [do_var] at hd1
        have hd2 := fun sv' w' hB h hz => zdo_any w.heap.size w.heap.size mb sv' w1.heap.size v (varN (v + 1)) w' hB h hz
        have e2 : ((v + 2 : Nat) : Int) = (v : Int) + 2 := by omega
        by_cases hv9 : v < 19998
        · simp only [ansV, hv9, if_true, Option.getD_some, Option.isSome_some, e2] at hd1 hd2
          have hv9' : (v : Int) < 19998 := by omega
          have HD1 := Lib.hid hd1
          have HD2 := Lib.hid hd2
          have HB := Lib.hid hbk
          clear hd1 hd2 htk hzk hbk e2
          go_wp2_with (first | (go_at_call 22; refine HD1.out.mono ?_; clear HD1; rintro e w3 ⟨rfl, sv3, ht3, hz3, hb3⟩) | (go_at_call 22; refine (HD2.out _ _ (Nat.le_trans HB.out.size hb3.size) ht3 hz3).mono ?_; clear HD2; rintro e w4 ⟨rfl, ht4, hz4, hb4⟩))
          go_roundw
          case rel => exact ⟨v + 1, sv3, by omega, by go_num, ht4, hz4, HB.out.trans (hb3.trans hb4)⟩
          case measure => simp [intOf]; omega
        · simp only [ansV, hv9, if_false, Option.getD_none, Option.isSome_none] at hd1 hd2
          have hv9' : ¬ (v : Int) < 19998 := by omega
          have HD1 := Lib.hid hd1
          have HD2 := Lib.hid hd2
          have HB := Lib.hid hbk
          clear hd1 hd2 htk hzk hbk e2
          go_wp2_with (first | (go_at_call 22; refine HD1.out.mono ?_; clear HD1; rintro e w3 ⟨rfl, sv3, ht3, hz3, hb3⟩) | (go_at_call 22; refine (HD2.out _ _ (Nat.le_trans HB.out.size hb3.size) ht3 hz3).mono ?_; clear HD2; rintro e w4 ⟨rfl, ht4, hz4, hb4⟩))
          go_roundw
          case rel => exact ⟨v + 1, sv3, by omega, by go_num, ht4, hz4, HB.out.trans (hb3.trans hb4)⟩
          case measure => simp [intOf]; omega
      · obtain rfl : m = v := by omega
        clear hlt hv
        by_cases h0 : m = 0
        · subst h0
          have hd := tdo_any w.heap.size w.heap.size mb sv w1.heap.size 0 (varN 0) ⟨3, 0, 0⟩ wr hbk.size htk (varN_neg 0) hzk
          rw [do_var0] at hd
          simp only [ansV, Option.getD_some, Option.isSome_some] at hd
          have hl : ((varN (max 0 1)).length : Int) = 3 := by rw [varN_length]; omega
          generalize varN (max 0 1) = ns at *
          have HD := Lib.hid hd
          have HB := Lib.hid hbk
          have HL := Lib.hid hl
          clear hd hbk htk hzk hl
          go_wp2_with (first | (go_at_call 22; refine HD.out.mono ?_; clear HD; rintro e w3 ⟨rfl, sv3, ht3, _, hb3⟩) | (go_at_call 22; refine (do_nil 2 0 0 _).mono ?_; rintro e w4 ⟨rfl, hb4⟩; have ht4 := ht3.tab.below hb4; have hb34 := hb3.trans (hb4.mono (Nat.le_trans HB.out.size hb3.size))) | (go_at_call 41; refine (node_nil _).mono ?_; rintro e w5 ⟨rfl, hb5⟩; have ht5 := ht4.below hb5) | (go_at_call 21; refine (eval_nil _).mono ?_; rintro e w6 ⟨rfl, hw6⟩; obtain rfl := hw6.symm) | (go_at_call 18; refine (haw _).mono ?_; rintro e w7 ⟨rfl, hb7⟩; have hL := len_old _ _ _ _ _ ((ht5.below ((Below.refl _ _).alloc (Nat.le_refl _) (.cells #[.int .i64 0, .int .i64 0, .int .i64 0] 33))).below hb7); rw [HL.out] at hL) | (go_at_call 20; refine hL.mono ?_; clear hL; rintro e w8 ⟨rfl, hw8⟩; obtain rfl := hw8.symm) | (go_at_call 20; refine (len_nil _).mono ?_; rintro e w9 ⟨rfl, hw9⟩; obtain rfl := hw9.symm) | (go_at_call 40; refine (reach_nil _).mono ?_; rintro e w10 ⟨rfl, hw10⟩; obtain rfl := hw10.symm))
          go_ret
          have b1 : Below w.heap.size w w4 := HB.out.trans hb34
          have b2 : Below w.heap.size w w5 := b1.trans (hb5.mono b1.size)
          exact ⟨rfl, (b2.alloc b2.size _).trans (hb7.mono (by have := b2.size; simp; omega))⟩
        have h1 : ¬ (m : Int) < 1 := by omega
        have h1' : (1 : Int) ≤ m := by omega
        by_cases h2 : m < 19998
        · have h3 : (m : Int) + 2 < 20000 := by omega
          have h4 : ¬ (20000 : Int) < (m : Int) + 2 := by omega
          have h5 : ¬ (20000 : Int) ≤ (m : Int) + 2 := by omega
          have hd := tdo_any w.heap.size w.heap.size mb sv w1.heap.size m (varN m) ⟨3, 0, 0⟩ wr hbk.size htk (varN_neg m) hzk
          rw [do_var0] at hd
          simp only [ansV, Option.getD_some, Option.isSome_some] at hd
          have hl : ((varN (max m 1)).length : Int) = (m:Int)+2 := by rw [varN_length]; omega
          generalize varN (max m 1) = ns at *
          have HD := Lib.hid hd
          have HB := Lib.hid hbk
          have HL := Lib.hid hl
          clear hd hbk htk hzk hl
          go_wp2_with (first | (go_at_call 22; refine HD.out.mono ?_; clear HD; rintro e w3 ⟨rfl, sv3, ht3, _, hb3⟩) | (go_at_call 22; refine (do_nil 2 0 0 _).mono ?_; rintro e w4 ⟨rfl, hb4⟩; have ht4 := ht3.tab.below hb4; have hb34 := hb3.trans (hb4.mono (Nat.le_trans HB.out.size hb3.size))) | (go_at_call 41; refine (node_nil _).mono ?_; rintro e w5 ⟨rfl, hb5⟩; have ht5 := ht4.below hb5) | (go_at_call 21; refine (eval_nil _).mono ?_; rintro e w6 ⟨rfl, hw6⟩; obtain rfl := hw6.symm) | (go_at_call 18; refine (haw _).mono ?_; rintro e w7 ⟨rfl, hb7⟩; have hL := len_old _ _ _ _ _ ((ht5.below ((Below.refl _ _).alloc (Nat.le_refl _) (.cells #[.int .i64 0, .int .i64 0, .int .i64 0] 33))).below hb7); rw [HL.out] at hL) | (go_at_call 20; refine hL.mono ?_; clear hL; rintro e w8 ⟨rfl, hw8⟩; obtain rfl := hw8.symm) | (go_at_call 20; refine (len_nil _).mono ?_; rintro e w9 ⟨rfl, hw9⟩; obtain rfl := hw9.symm) | (go_at_call 40; refine (reach_nil _).mono ?_; rintro e w10 ⟨rfl, hw10⟩; obtain rfl := hw10.symm))
          go_ret
          have b1 : Below w.heap.size w w4 := HB.out.trans hb34
          have b2 : Below w.heap.size w w5 := b1.trans (hb5.mono b1.size)
          exact ⟨rfl, (b2.alloc b2.size _).trans (hb7.mono (by have := b2.size; simp; omega))⟩
        by_cases h3 : m = 19998
        · subst h3
          have hd := tdo_any w.heap.size w.heap.size mb sv w1.heap.size 19998 (varN 19998) ⟨3, 0, 0⟩ wr hbk.size htk (varN_neg 19998) hzk
          rw [do_var0] at hd
          simp only [ansV, Option.getD_some, Option.isSome_some] at hd
          have hl : ((varN (max 19998 1)).length : Int) = 20000 := by rw [varN_length]; omega
          generalize varN (max 19998 1) = ns at *
          have HD := Lib.hid hd
          have HB := Lib.hid hbk
          have HL := Lib.hid hl
          clear hd hbk htk hzk hl
          go_wp2_with (first | (go_at_call 22; refine HD.out.mono ?_; clear HD; rintro e w3 ⟨rfl, sv3, ht3, _, hb3⟩) | (go_at_call 22; refine (do_nil 2 0 0 _).mono ?_; rintro e w4 ⟨rfl, hb4⟩; have ht4 := ht3.tab.below hb4; have hb34 := hb3.trans (hb4.mono (Nat.le_trans HB.out.size hb3.size))) | (go_at_call 41; refine (node_nil _).mono ?_; rintro e w5 ⟨rfl, hb5⟩; have ht5 := ht4.below hb5) | (go_at_call 21; refine (eval_nil _).mono ?_; rintro e w6 ⟨rfl, hw6⟩; obtain rfl := hw6.symm) | (go_at_call 18; refine (haw _).mono ?_; rintro e w7 ⟨rfl, hb7⟩; have hL := len_old _ _ _ _ _ ((ht5.below ((Below.refl _ _).alloc (Nat.le_refl _) (.cells #[.int .i64 0, .int .i64 0, .int .i64 0] 33))).below hb7); rw [HL.out] at hL) | (go_at_call 20; refine hL.mono ?_; clear hL; rintro e w8 ⟨rfl, hw8⟩; obtain rfl := hw8.symm) | (go_at_call 20; refine (len_nil _).mono ?_; rintro e w9 ⟨rfl, hw9⟩; obtain rfl := hw9.symm) | (go_at_call 40; refine (reach_nil _).mono ?_; rintro e w10 ⟨rfl, hw10⟩; obtain rfl := hw10.symm))
          go_ret
          have b1 : Below w.heap.size w w4 := HB.out.trans hb34
          have b2 : Below w.heap.size w w5 := b1.trans (hb5.mono b1.size)
          exact ⟨rfl, (b2.alloc b2.size _).trans (hb7.mono (by have := b2.size; simp; omega))⟩
        · have h3 : (20000 : Int) < (m : Int) + 2 := by omega
          have h4 : ¬ (m : Int) + 2 < 20000 := by omega
          have h5 : ¬ (m : Int) + 2 ≤ 20000 := by omega
          have hd := tdo_any w.heap.size w.heap.size mb sv w1.heap.size m (varN m) ⟨3, 0, 0⟩ wr hbk.size htk (varN_neg m) hzk
          rw [do_var0] at hd
          simp only [ansV, Option.getD_some, Option.isSome_some] at hd
          have hl : ((varN (max m 1)).length : Int) = 20000 := by rw [varN_length]; omega
          generalize varN (max m 1) = ns at *
          have HD := Lib.hid hd
          have HB := Lib.hid hbk
          have HL := Lib.hid hl
          clear hd hbk htk hzk hl
          go_wp2_with (first | (go_at_call 22; refine HD.out.mono ?_; clear HD; rintro e w3 ⟨rfl, sv3, ht3, _, hb3⟩) | (go_at_call 22; refine (do_nil 2 0 0 _).mono ?_; rintro e w4 ⟨rfl, hb4⟩; have ht4 := ht3.tab.below hb4; have hb34 := hb3.trans (hb4.mono (Nat.le_trans HB.out.size hb3.size))) | (go_at_call 41; refine (node_nil _).mono ?_; rintro e w5 ⟨rfl, hb5⟩; have ht5 := ht4.below hb5) | (go_at_call 21; refine (eval_nil _).mono ?_; rintro e w6 ⟨rfl, hw6⟩; obtain rfl := hw6.symm) | (go_at_call 18; refine (haw _).mono ?_; rintro e w7 ⟨rfl, hb7⟩; have hL := len_old _ _ _ _ _ ((ht5.below ((Below.refl _ _).alloc (Nat.le_refl _) (.cells #[.int .i64 0, .int .i64 0, .int .i64 0] 33))).below hb7); rw [HL.out] at hL) | (go_at_call 20; refine hL.mono ?_; clear hL; rintro e w8 ⟨rfl, hw8⟩; obtain rfl := hw8.symm) | (go_at_call 20; refine (len_nil _).mono ?_; rintro e w9 ⟨rfl, hw9⟩; obtain rfl := hw9.symm) | (go_at_call 40; refine (reach_nil _).mono ?_; rintro e w10 ⟨rfl, hw10⟩; obtain rfl := hw10.symm))
          go_ret
          have b1 : Below w.heap.size w w4 := HB.out.trans hb34
          have b2 : Below w.heap.size w w5 := b1.trans (hb5.mono b1.size)
          exact ⟨rfl, (b2.alloc b2.size _).trans (hb7.mono (by have := b2.size; simp; omega))⟩

theorem full_law {w : World} (n : Int) (hn : (Lit.int .i64 n).wf = true) :
    Calls Try.prog 12 #[.int .i64 n] w fun e w' => e = .returned (.bool true) ∧ Below w.heap.size w w' := full_walk n w
end Go.Proofs.Ytdpnififbpoagaa
