/- The law ClauseKeys. -/
import Derived.Test.YtbcabcdgblmnkaaClKey2
import Derived.Test.YtbcabcdgblmnkaaClHolds
import Derived.Deep.RegionHeld3
import Derived.Deep.DeepCutAuto
namespace Go.Proofs.Ytbcabcdgblmnkaa
open Go.RowKit
set_option linter.unusedVariables false
set_option linter.unusedSimpArgs false

def hdK (x : List Int) (i j : Nat) : Int := if j < i then x.getD j 0 else 0
/-- the wanted key's cells behind i rounds. -/
def headN (x : List Int) (i : Nat) : List Value := [.int .i64 x.length, .int .i64 (hdK x i 0), .int .i64 (hdK x i 1), .int .i64 (hdK x i 2), .int .i64 (hdK x i 3), .int .i64 (hdK x i 4), .int .i64 (hdK x i 5), .string ⟨#[]⟩]
theorem headN_small (x : List Int) (i : Nat) (h : i < 6) : (headN x i).toArray.setIfInBounds (1 + i) (.int .i64 (x.getD i 0)) = (headN x (i + 1)).toArray := by
  have : i = 0 ∨ i = 1 ∨ i = 2 ∨ i = 3 ∨ i = 4 ∨ i = 5 := by omega
  rcases this with rfl | rfl | rfl | rfl | rfl | rfl <;> simp [headN, hdK]
theorem headN_big (x : List Int) (i : Nat) (h : 6 ≤ i) : headN x (i + 1) = headN x i := by
  simp only [headN, hdK]
  repeat rw [if_pos (by omega), if_pos (by omega)]
theorem headN_end (x : List Int) : headN x x.length = headL x := by
  have key : ∀ j, hdK x x.length j = x.getD j 0 := fun j => by
    unfold hdK
    split
    · rfl
    · rw [List.getD_eq_getElem?_getD, List.getElem?_eq_none (by omega)]; rfl
  simp only [headN, headL, key]
def restN (x : List Int) (i : Nat) : List Int := packs (((x.take i).drop 6).map zigN)
theorem restN_small (x : List Int) (i : Nat) (h : i ≤ 6) : restN x i = [] := by
  unfold restN
  rw [List.drop_of_length_le (by rw [List.length_take]; omega)]
  rfl
theorem restN_big (x : List Int) (i : Nat) (h : 6 ≤ i) (hi : i < x.length) : restN x (i + 1) = restN x i ++ vint (zigN (x.getD i 0)) := by
  unfold restN
  have e : x.take (i + 1) = x.take i ++ [x.getD i 0] := by
    rw [List.take_add_one, List.getElem?_eq_getElem hi, List.getD_eq_getElem?_getD, List.getElem?_eq_getElem hi]; rfl
  rw [e, List.drop_append_of_le_length (by rw [List.length_take]; omega), List.map_append]
  simp [packs]
theorem restN_len (x : List Int) (i : Nat) (h : x.length ≤ 60) (hx : ∀ l ∈ x, IsI64 l) : (restN x i).length ≤ 600 := by
  have := packs_length (((x.take i).drop 6).map zigN) (zigs_lt _ fun l hl => hx l (List.mem_of_mem_take (List.mem_of_mem_drop hl)))
  rw [List.length_map, List.length_drop, List.length_take] at this
  unfold restN
  omega
theorem bytes8_cell (xs : List Int) : ∀ u ∈ bytes8 xs, u.oneCell' = true := by
  intro u hu
  obtain ⟨x, _, rfl⟩ := List.mem_map.1 hu
  rfl

set_option maxRecDepth 100000 in
set_option maxHeartbeats 8000000 in
theorem keys_law {w : World} (A : Option Addr) (n c : Nat) (xs : List Int) (hl : xs.length = n) (hnc : n ≤ c) (hc : c * 8 ≤ 140737488351232) (hr : Rd w 1 A n (ints xs)) (hwf : ∀ x ∈ xs, (Lit.int .i64 x).wf = true)
    (A2 : Option Addr) (n2 c2 : Nat) (xs2 : List Int) (hl2 : xs2.length = n2) (hnc2 : n2 ≤ c2) (hc2 : c2 * 8 ≤ 140737488351232) (hr2 : Rd w 1 A2 n2 (ints xs2)) (hwf2 : ∀ x ∈ xs2, (Lit.int .i64 x).wf = true) :
    Calls Try.prog 8 #[.slice A n c, .slice A2 n2 c2] w fun e w' => e = .returned (.bool true) ∧ Below w.heap.size w w' := by
  have hf1 := few_row xs A n c w hl hnc hc hr
  have hf2 := fun w1 (hb : Below w.heap.size w w1) => few_row xs2 A2 n2 c2 w1 hl2 hnc2 hc2 (hr2.below hb)
  have hys := few_len xs
  have hyi := few_i64 (i64s xs hwf)
  have hzs := few_len xs2
  have hzi := few_i64 (i64s xs2 hwf2)
  generalize xs.take 60 = ys at *
  generalize xs2.take 60 = zs at *
  have hffy := fun v B W (h : RowI W B v ys) => few_again ys v B W hys h
  have hffz := fun v B W (h : RowI W B v zs) => few_again zs v B W hzs h
  have hgdy := fun A' c' B W (h : RowI W B (.slice A' ys.length c') ys) => goodR ys A' c' B W hys h
  have hgdz := fun A' c' B W (h : RowI W B (.slice A' zs.length c') zs) => goodR zs A' c' B W hzs h
  have hkey := fun A' c' B W (h : RowI W B (.slice A' ys.length c') ys) => keyOf_any ys A' ys.length c' W rfl h.rd2.1 (by omega) h.rd2.2.2 hyi
  have hkez := fun A' c' B W (h : RowI W B (.slice A' zs.length c') zs) => keyOf_any zs A' zs.length c' W rfl h.rd2.1 (by omega) h.rd2.2.2 hzi
  have hcr := fun hg A' c' B W (h : RowI W B (.slice A' ys.length c') ys) => canonR_any ys A' ys.length c' W rfl (by omega) h.rd2.2.2 (good_lit (xs := ys) hg hyi)
  have hcrz := fun hg A' c' B W (h : RowI W B (.slice A' zs.length c') zs) => canonR_any zs A' zs.length c' W rfl (by omega) h.rd2.2.2 (good_lit (xs := zs) hg hzi)
  have hlit := fun hg => canon_lits (good_lit (xs := ys) hg hyi)
  have hlitz := fun hg => canon_lits (good_lit (xs := zs) hg hzi)
  have hcyl := canonI_len ys
  have hczl := canonI_len zs
  have haw := cawake_any
  have hkeq := run_eql_key
  generalize goodB zs = Gz at *
  generalize goodB ys = G at *
  generalize hcy : canonI ys = cy at *
  generalize hcz : canonI zs = cz at *
  clear hr hr2 hwf hwf2 hyi hzi
  cases G with
  | false =>
    rw [if_neg (by simp), if_neg (by simp)] at hkey
    clear hcr hlit hcrz hlitz
    have hkz0 : key0.n = 0 ∧ key0.a = 0 ∧ key0.b = 0 ∧ key0.c = 0 ∧ key0.d = 0 ∧ key0.e = 0 ∧ key0.f = 0 ∧ key0.s.toList = [] := ⟨rfl, rfl, rfl, rfl, rfl, rfl, rfl, by rw [ByteArray.toList_eq]; rfl⟩
    generalize hky : key0 = ky at hkey hkz0
    generalize hkz : (if Gz = true then keyC cz else key0) = kz at *
    have hcr := hkz0
    clear hkz0 hky hkz
    cases Gz with
    | false =>
      rw [if_neg (by simp)] at hkez
      have HF1 := Lib.hid hf1
      have HF2 := Lib.hid hf2
      have HFY := Lib.hid hffy
      have HFZ := Lib.hid hffz
      have HGY := Lib.hid hgdy
      have HGZ := Lib.hid hgdz
      have HKY := Lib.hid hkey
      have HKZ := Lib.hid hkez
      have HAW := Lib.hid haw
      have HCR := Lib.hid hcr
      have HEQ := Lib.hid hkeq
      clear hf1 hf2 hffy hffz hgdy hgdz hkey hkez haw hcr hkeq
      go_enter Try.func8, Try.ntmps8
      go_wp2_with fail
      go_at_call 13
      refine (HF1.out).mono ?_
      rintro e w1 ⟨v1, rfl, ho1, hb1⟩
      go_wp2_with fail
      go_at_call 13
      refine (HF2.out _ hb1).mono ?_
      rintro e w2 ⟨v2, rfl, ho2, hb2⟩
      obtain ⟨A1, c1, rfl⟩ := ho1.form
      obtain ⟨A3, c3, rfl⟩ := ho2.form
      have HB2 := Lib.hid (bstepC hb1 hb2)
      have HO1 := Lib.hid (ho1.below hb2)
      have HO2 := Lib.hid ho2
      clear ho1 ho2 hb1 hb2
      go_wp2_with fail
      go_at_call 13
      refine (HFY.out _ _ _ HO1.out).mono ?_
      rintro e w3 ⟨v3, rfl, ho3, hb3⟩
      obtain ⟨A4, c4, rfl⟩ := ho3.form
      have HO3 := Lib.hid ho3
      clear ho3
      go_wp2_with fail
      go_at_call 27
      refine (HKY.out _ _ _ _ HO3.out).mono ?_
      rintro e w4 ⟨rfl, hb4⟩
      simp only [K8.val]
      have hb24 := bstepC hb3 hb4
      go_upto_region 3 with fail
      have hb25 := hb24.alloc hb24.size (.cells #[.int .i64 ky.n, .int .i64 ky.a, .int .i64 ky.b, .int .i64 ky.c, .int .i64 ky.d, .int .i64 ky.e, .int .i64 ky.f, .string ky.s] 47)
      have hg5 := heap_alloc_new w4 (.cells #[.int .i64 ky.n, .int .i64 ky.a, .int .i64 ky.b, .int .i64 ky.c, .int .i64 ky.d, .int .i64 ky.e, .int .i64 ky.f, .string ky.s] 47)
      obtain ⟨w5, hw5⟩ : ∃ W, W = w4.alloc (.cells #[.int .i64 ky.n, .int .i64 ky.a, .int .i64 ky.b, .int .i64 ky.c, .int .i64 ky.d, .int .i64 ky.e, .int .i64 ky.f, .string ky.s] 47) := ⟨_, rfl⟩
      rw [← hw5] at hb25 hg5 ⊢
      clear hw5 hb24 hb3 hb4
      go_wp2_with fail
      go_at_call 13
      refine (HFZ.out _ _ _ (HO2.out.below hb25)).mono ?_
      rintro e w6 ⟨v6, rfl, ho6, hb6⟩
      obtain ⟨A6, c6, rfl⟩ := ho6.form
      have HO6 := Lib.hid ho6
      clear ho6
      go_wp2_with fail
      go_at_call 27
      refine (HKZ.out _ _ _ _ HO6.out).mono ?_
      rintro e w7 ⟨rfl, hb7⟩
      simp only [K8.val]
      have hb57 := bstepC hb6 hb7
      go_upto_region 4 with fail
      have hb58 := hb57.alloc hb57.size (.cells #[.int .i64 kz.n, .int .i64 kz.a, .int .i64 kz.b, .int .i64 kz.c, .int .i64 kz.d, .int .i64 kz.e, .int .i64 kz.f, .string kz.s] 47)
      have hg8 := heap_alloc_new w7 (.cells #[.int .i64 kz.n, .int .i64 kz.a, .int .i64 kz.b, .int .i64 kz.c, .int .i64 kz.d, .int .i64 kz.e, .int .i64 kz.f, .string kz.s] 47)
      obtain ⟨w8, hw8⟩ : ∃ W, W = w7.alloc (.cells #[.int .i64 kz.n, .int .i64 kz.a, .int .i64 kz.b, .int .i64 kz.c, .int .i64 kz.d, .int .i64 kz.e, .int .i64 kz.f, .string kz.s] 47) := ⟨_, rfl⟩
      rw [← hw8] at hb58 hg8 ⊢
      have hg58 := (hb58.block _ (lt_of_blk hg5)).trans hg5
      have hb28 := bstepC hb25 hb58
      have HB28 := Lib.hid hb28
      have HG5 := Lib.hid hg58
      have HG8 := Lib.hid hg8
      have hlt5 := lt_of_blk hg58
      have hlt8 := lt_of_blk hg8
      clear hw8 hb6 hb7 hb57 hg5 hg58 hg8 hb58 hb25 hb28
      go_wp2_with fail
      go_at_call 16
      refine (HAW.out _).mono ?_
      rintro e w9 ⟨rfl, hb9⟩
      go_wp2_with fail
      go_at_call 15
      refine (HGY.out _ _ _ _ (HO1.out.below (bstepC HB28.out hb9))).mono ?_
      rintro e w' ⟨rfl, hw⟩; obtain rfl := hw.symm
      go_wp2_with fail
      go_at_call 15
      refine (HGZ.out _ _ _ _ (HO2.out.below (bstepC HB28.out hb9))).mono ?_
      rintro e w' ⟨rfl, hw⟩; obtain rfl := hw.symm
      clear hlt5 hlt8
      obtain ⟨z0, z1, z2, z3, z4, z5, z6, z7⟩ := box8 ((hb9.block _ (lt_of_blk HG5.out)).trans HG5.out)
      obtain ⟨q0, q1, q2, q3, q4, q5, q6, q7⟩ := HCR.out
      have harr : ∀ w, (Op.equalIn 9999 45 (.agg #[.int .i64 0, .int .i64 0, .int .i64 0, .int .i64 0, .int .i64 0, .int .i64 0]) (.agg #[.int .i64 0, .int .i64 0, .int .i64 0, .int .i64 0, .int .i64 0, .int .i64 0])).run Try.prog w = .ok true w := fun w => run_arr6 0 0 0 0 0 0 0 0 0 0 0 0 w 9997
      go_wp2_with fail
      go_ret
      exact ⟨by simp, bstepC HB2.out (bstepC HB28.out hb9)⟩
    | true =>
      rw [if_pos rfl] at hkez
      have HF1 := Lib.hid hf1
      have HF2 := Lib.hid hf2
      have HFY := Lib.hid hffy
      have HFZ := Lib.hid hffz
      have HGY := Lib.hid hgdy
      have HGZ := Lib.hid hgdz
      have HKY := Lib.hid hkey
      have HKZ := Lib.hid hkez
      have HAW := Lib.hid haw
      have HCR := Lib.hid hcr
      have HEQ := Lib.hid hkeq
      clear hf1 hf2 hffy hffz hgdy hgdz hkey hkez haw hcr hkeq
      go_enter Try.func8, Try.ntmps8
      go_wp2_with fail
      go_at_call 13
      refine (HF1.out).mono ?_
      rintro e w1 ⟨v1, rfl, ho1, hb1⟩
      go_wp2_with fail
      go_at_call 13
      refine (HF2.out _ hb1).mono ?_
      rintro e w2 ⟨v2, rfl, ho2, hb2⟩
      obtain ⟨A1, c1, rfl⟩ := ho1.form
      obtain ⟨A3, c3, rfl⟩ := ho2.form
      have HB2 := Lib.hid (bstepC hb1 hb2)
      have HO1 := Lib.hid (ho1.below hb2)
      have HO2 := Lib.hid ho2
      clear ho1 ho2 hb1 hb2
      go_wp2_with fail
      go_at_call 13
      refine (HFY.out _ _ _ HO1.out).mono ?_
      rintro e w3 ⟨v3, rfl, ho3, hb3⟩
      obtain ⟨A4, c4, rfl⟩ := ho3.form
      have HO3 := Lib.hid ho3
      clear ho3
      go_wp2_with fail
      go_at_call 27
      refine (HKY.out _ _ _ _ HO3.out).mono ?_
      rintro e w4 ⟨rfl, hb4⟩
      simp only [K8.val]
      have hb24 := bstepC hb3 hb4
      go_upto_region 3 with fail
      have hb25 := hb24.alloc hb24.size (.cells #[.int .i64 ky.n, .int .i64 ky.a, .int .i64 ky.b, .int .i64 ky.c, .int .i64 ky.d, .int .i64 ky.e, .int .i64 ky.f, .string ky.s] 47)
      have hg5 := heap_alloc_new w4 (.cells #[.int .i64 ky.n, .int .i64 ky.a, .int .i64 ky.b, .int .i64 ky.c, .int .i64 ky.d, .int .i64 ky.e, .int .i64 ky.f, .string ky.s] 47)
      obtain ⟨w5, hw5⟩ : ∃ W, W = w4.alloc (.cells #[.int .i64 ky.n, .int .i64 ky.a, .int .i64 ky.b, .int .i64 ky.c, .int .i64 ky.d, .int .i64 ky.e, .int .i64 ky.f, .string ky.s] 47) := ⟨_, rfl⟩
      rw [← hw5] at hb25 hg5 ⊢
      clear hw5 hb24 hb3 hb4
      go_wp2_with fail
      go_at_call 13
      refine (HFZ.out _ _ _ (HO2.out.below hb25)).mono ?_
      rintro e w6 ⟨v6, rfl, ho6, hb6⟩
      obtain ⟨A6, c6, rfl⟩ := ho6.form
      have HO6 := Lib.hid ho6
      clear ho6
      go_wp2_with fail
      go_at_call 27
      refine (HKZ.out _ _ _ _ HO6.out).mono ?_
      rintro e w7 ⟨rfl, hb7⟩
      simp only [K8.val]
      have hb57 := bstepC hb6 hb7
      go_upto_region 4 with fail
      have hb58 := hb57.alloc hb57.size (.cells #[.int .i64 kz.n, .int .i64 kz.a, .int .i64 kz.b, .int .i64 kz.c, .int .i64 kz.d, .int .i64 kz.e, .int .i64 kz.f, .string kz.s] 47)
      have hg8 := heap_alloc_new w7 (.cells #[.int .i64 kz.n, .int .i64 kz.a, .int .i64 kz.b, .int .i64 kz.c, .int .i64 kz.d, .int .i64 kz.e, .int .i64 kz.f, .string kz.s] 47)
      obtain ⟨w8, hw8⟩ : ∃ W, W = w7.alloc (.cells #[.int .i64 kz.n, .int .i64 kz.a, .int .i64 kz.b, .int .i64 kz.c, .int .i64 kz.d, .int .i64 kz.e, .int .i64 kz.f, .string kz.s] 47) := ⟨_, rfl⟩
      rw [← hw8] at hb58 hg8 ⊢
      have hg58 := (hb58.block _ (lt_of_blk hg5)).trans hg5
      have hb28 := bstepC hb25 hb58
      have HB28 := Lib.hid hb28
      have HG5 := Lib.hid hg58
      have HG8 := Lib.hid hg8
      have hlt5 := lt_of_blk hg58
      have hlt8 := lt_of_blk hg8
      clear hw8 hb6 hb7 hb57 hg5 hg58 hg8 hb58 hb25 hb28
      go_wp2_with fail
      go_at_call 16
      refine (HAW.out _).mono ?_
      rintro e w9 ⟨rfl, hb9⟩
      go_wp2_with fail
      go_at_call 15
      refine (HGY.out _ _ _ _ (HO1.out.below (bstepC HB28.out hb9))).mono ?_
      rintro e w' ⟨rfl, hw⟩; obtain rfl := hw.symm
      go_wp2_with fail
      go_at_call 15
      refine (HGZ.out _ _ _ _ (HO2.out.below (bstepC HB28.out hb9))).mono ?_
      rintro e w' ⟨rfl, hw⟩; obtain rfl := hw.symm
      clear hlt5 hlt8
      obtain ⟨z0, z1, z2, z3, z4, z5, z6, z7⟩ := box8 ((hb9.block _ (lt_of_blk HG5.out)).trans HG5.out)
      obtain ⟨q0, q1, q2, q3, q4, q5, q6, q7⟩ := HCR.out
      have harr : ∀ w, (Op.equalIn 9999 45 (.agg #[.int .i64 0, .int .i64 0, .int .i64 0, .int .i64 0, .int .i64 0, .int .i64 0]) (.agg #[.int .i64 0, .int .i64 0, .int .i64 0, .int .i64 0, .int .i64 0, .int .i64 0])).run Try.prog w = .ok true w := fun w => run_arr6 0 0 0 0 0 0 0 0 0 0 0 0 w 9997
      go_wp2_with fail
      go_ret
      exact ⟨by simp, bstepC HB2.out (bstepC HB28.out hb9)⟩
  | true =>
    rw [if_pos rfl, if_pos rfl] at hkey
    cases Gz with
    | false =>
      rw [if_neg (by simp), if_neg (by simp)] at hkez
      clear hcr hlit hcrz hlitz
      have hcr : True := trivial
      generalize keyC cy = ky at *
      generalize key0 = kz at *
      have HF1 := Lib.hid hf1
      have HF2 := Lib.hid hf2
      have HFY := Lib.hid hffy
      have HFZ := Lib.hid hffz
      have HGY := Lib.hid hgdy
      have HGZ := Lib.hid hgdz
      have HKY := Lib.hid hkey
      have HKZ := Lib.hid hkez
      have HAW := Lib.hid haw
      have HCR := Lib.hid hcr
      have HEQ := Lib.hid hkeq
      clear hf1 hf2 hffy hffz hgdy hgdz hkey hkez haw hcr hkeq
      go_enter Try.func8, Try.ntmps8
      go_wp2_with fail
      go_at_call 13
      refine (HF1.out).mono ?_
      rintro e w1 ⟨v1, rfl, ho1, hb1⟩
      go_wp2_with fail
      go_at_call 13
      refine (HF2.out _ hb1).mono ?_
      rintro e w2 ⟨v2, rfl, ho2, hb2⟩
      obtain ⟨A1, c1, rfl⟩ := ho1.form
      obtain ⟨A3, c3, rfl⟩ := ho2.form
      have HB2 := Lib.hid (bstepC hb1 hb2)
      have HO1 := Lib.hid (ho1.below hb2)
      have HO2 := Lib.hid ho2
      clear ho1 ho2 hb1 hb2
      go_wp2_with fail
      go_at_call 13
      refine (HFY.out _ _ _ HO1.out).mono ?_
      rintro e w3 ⟨v3, rfl, ho3, hb3⟩
      obtain ⟨A4, c4, rfl⟩ := ho3.form
      have HO3 := Lib.hid ho3
      clear ho3
      go_wp2_with fail
      go_at_call 27
      refine (HKY.out _ _ _ _ HO3.out).mono ?_
      rintro e w4 ⟨rfl, hb4⟩
      simp only [K8.val]
      have hb24 := bstepC hb3 hb4
      go_upto_region 3 with fail
      have hb25 := hb24.alloc hb24.size (.cells #[.int .i64 ky.n, .int .i64 ky.a, .int .i64 ky.b, .int .i64 ky.c, .int .i64 ky.d, .int .i64 ky.e, .int .i64 ky.f, .string ky.s] 47)
      have hg5 := heap_alloc_new w4 (.cells #[.int .i64 ky.n, .int .i64 ky.a, .int .i64 ky.b, .int .i64 ky.c, .int .i64 ky.d, .int .i64 ky.e, .int .i64 ky.f, .string ky.s] 47)
      obtain ⟨w5, hw5⟩ : ∃ W, W = w4.alloc (.cells #[.int .i64 ky.n, .int .i64 ky.a, .int .i64 ky.b, .int .i64 ky.c, .int .i64 ky.d, .int .i64 ky.e, .int .i64 ky.f, .string ky.s] 47) := ⟨_, rfl⟩
      rw [← hw5] at hb25 hg5 ⊢
      clear hw5 hb24 hb3 hb4
      go_wp2_with fail
      go_at_call 13
      refine (HFZ.out _ _ _ (HO2.out.below hb25)).mono ?_
      rintro e w6 ⟨v6, rfl, ho6, hb6⟩
      obtain ⟨A6, c6, rfl⟩ := ho6.form
      have HO6 := Lib.hid ho6
      clear ho6
      go_wp2_with fail
      go_at_call 27
      refine (HKZ.out _ _ _ _ HO6.out).mono ?_
      rintro e w7 ⟨rfl, hb7⟩
      simp only [K8.val]
      have hb57 := bstepC hb6 hb7
      go_upto_region 4 with fail
      have hb58 := hb57.alloc hb57.size (.cells #[.int .i64 kz.n, .int .i64 kz.a, .int .i64 kz.b, .int .i64 kz.c, .int .i64 kz.d, .int .i64 kz.e, .int .i64 kz.f, .string kz.s] 47)
      have hg8 := heap_alloc_new w7 (.cells #[.int .i64 kz.n, .int .i64 kz.a, .int .i64 kz.b, .int .i64 kz.c, .int .i64 kz.d, .int .i64 kz.e, .int .i64 kz.f, .string kz.s] 47)
      obtain ⟨w8, hw8⟩ : ∃ W, W = w7.alloc (.cells #[.int .i64 kz.n, .int .i64 kz.a, .int .i64 kz.b, .int .i64 kz.c, .int .i64 kz.d, .int .i64 kz.e, .int .i64 kz.f, .string kz.s] 47) := ⟨_, rfl⟩
      rw [← hw8] at hb58 hg8 ⊢
      have hg58 := (hb58.block _ (lt_of_blk hg5)).trans hg5
      have hb28 := bstepC hb25 hb58
      have HB28 := Lib.hid hb28
      have HG5 := Lib.hid hg58
      have HG8 := Lib.hid hg8
      have hlt5 := lt_of_blk hg58
      have hlt8 := lt_of_blk hg8
      clear hw8 hb6 hb7 hb57 hg5 hg58 hg8 hb58 hb25 hb28
      go_wp2_with fail
      go_at_call 16
      refine (HAW.out _).mono ?_
      rintro e w9 ⟨rfl, hb9⟩
      go_wp2_with fail
      go_at_call 15
      refine (HGY.out _ _ _ _ (HO1.out.below (bstepC HB28.out hb9))).mono ?_
      rintro e w' ⟨rfl, hw⟩; obtain rfl := hw.symm
      go_wp2_with fail
      go_at_call 15
      refine (HGZ.out _ _ _ _ (HO2.out.below (bstepC HB28.out hb9))).mono ?_
      rintro e w' ⟨rfl, hw⟩; obtain rfl := hw.symm
      clear hlt5 hlt8
      go_wp2_with fail
      go_ret
      exact ⟨by simp, bstepC HB2.out (bstepC HB28.out hb9)⟩
    | true =>
      rw [if_pos rfl, if_pos rfl] at hkez
      have hcr := hcr rfl
      have hcrz := hcrz rfl
      have hlit := hlit rfl
      have hlitz := hlitz rfl
      have hki := key_inj cy cz (fun l h => by have := hlit l h; unfold IsLit at this; unfold IsI64; omega) (fun l h => by have := hlitz l h; unfold IsLit at this; unfold IsI64; omega)
      have hcyI : ∀ l ∈ cy, IsI64 l := fun l h => by have := hlit l h; unfold IsLit at this; unfold IsI64; omega
      have hky : keyC cy = ⟨cy.length, cy.getD 0 0, cy.getD 1 0, cy.getD 2 0, cy.getD 3 0, cy.getD 4 0, cy.getD 5 0, strOf (restN cy cy.length)⟩ := by unfold keyC restN; rw [List.take_of_length_le (Nat.le_refl _)]
      have HKI := Lib.hid hki
      have HCYI := Lib.hid hcyI
      have HKYD := Lib.hid hky
      have HCRZ := Lib.hid hcrz
      clear hlit hlitz hki hcrz hky hcyI
      generalize hky : keyC cy = ky at *
      generalize hkz : keyC cz = kz at *
      clear hky hkz
      have HF1 := Lib.hid hf1
      have HF2 := Lib.hid hf2
      have HFY := Lib.hid hffy
      have HFZ := Lib.hid hffz
      have HGY := Lib.hid hgdy
      have HGZ := Lib.hid hgdz
      have HKY := Lib.hid hkey
      have HKZ := Lib.hid hkez
      have HAW := Lib.hid haw
      have HCR := Lib.hid hcr
      have HEQ := Lib.hid hkeq
      clear hf1 hf2 hffy hffz hgdy hgdz hkey hkez haw hcr hkeq
      go_enter Try.func8, Try.ntmps8
      go_wp2_with fail
      go_at_call 13
      refine (HF1.out).mono ?_
      rintro e w1 ⟨v1, rfl, ho1, hb1⟩
      go_wp2_with fail
      go_at_call 13
      refine (HF2.out _ hb1).mono ?_
      rintro e w2 ⟨v2, rfl, ho2, hb2⟩
      obtain ⟨A1, c1, rfl⟩ := ho1.form
      obtain ⟨A3, c3, rfl⟩ := ho2.form
      have HB2 := Lib.hid (bstepC hb1 hb2)
      have HO1 := Lib.hid (ho1.below hb2)
      have HO2 := Lib.hid ho2
      clear ho1 ho2 hb1 hb2
      go_wp2_with fail
      go_at_call 13
      refine (HFY.out _ _ _ HO1.out).mono ?_
      rintro e w3 ⟨v3, rfl, ho3, hb3⟩
      obtain ⟨A4, c4, rfl⟩ := ho3.form
      have HO3 := Lib.hid ho3
      clear ho3
      go_wp2_with fail
      go_at_call 27
      refine (HKY.out _ _ _ _ HO3.out).mono ?_
      rintro e w4 ⟨rfl, hb4⟩
      simp only [K8.val]
      have hb24 := bstepC hb3 hb4
      go_upto_region 3 with fail
      have hb25 := hb24.alloc hb24.size (.cells #[.int .i64 ky.n, .int .i64 ky.a, .int .i64 ky.b, .int .i64 ky.c, .int .i64 ky.d, .int .i64 ky.e, .int .i64 ky.f, .string ky.s] 47)
      have hg5 := heap_alloc_new w4 (.cells #[.int .i64 ky.n, .int .i64 ky.a, .int .i64 ky.b, .int .i64 ky.c, .int .i64 ky.d, .int .i64 ky.e, .int .i64 ky.f, .string ky.s] 47)
      obtain ⟨w5, hw5⟩ : ∃ W, W = w4.alloc (.cells #[.int .i64 ky.n, .int .i64 ky.a, .int .i64 ky.b, .int .i64 ky.c, .int .i64 ky.d, .int .i64 ky.e, .int .i64 ky.f, .string ky.s] 47) := ⟨_, rfl⟩
      rw [← hw5] at hb25 hg5 ⊢
      clear hw5 hb24 hb3 hb4
      go_wp2_with fail
      go_at_call 13
      refine (HFZ.out _ _ _ (HO2.out.below hb25)).mono ?_
      rintro e w6 ⟨v6, rfl, ho6, hb6⟩
      obtain ⟨A6, c6, rfl⟩ := ho6.form
      have HO6 := Lib.hid ho6
      clear ho6
      go_wp2_with fail
      go_at_call 27
      refine (HKZ.out _ _ _ _ HO6.out).mono ?_
      rintro e w7 ⟨rfl, hb7⟩
      simp only [K8.val]
      have hb57 := bstepC hb6 hb7
      go_upto_region 4 with fail
      have hb58 := hb57.alloc hb57.size (.cells #[.int .i64 kz.n, .int .i64 kz.a, .int .i64 kz.b, .int .i64 kz.c, .int .i64 kz.d, .int .i64 kz.e, .int .i64 kz.f, .string kz.s] 47)
      have hg8 := heap_alloc_new w7 (.cells #[.int .i64 kz.n, .int .i64 kz.a, .int .i64 kz.b, .int .i64 kz.c, .int .i64 kz.d, .int .i64 kz.e, .int .i64 kz.f, .string kz.s] 47)
      obtain ⟨w8, hw8⟩ : ∃ W, W = w7.alloc (.cells #[.int .i64 kz.n, .int .i64 kz.a, .int .i64 kz.b, .int .i64 kz.c, .int .i64 kz.d, .int .i64 kz.e, .int .i64 kz.f, .string kz.s] 47) := ⟨_, rfl⟩
      rw [← hw8] at hb58 hg8 ⊢
      have hg58 := (hb58.block _ (lt_of_blk hg5)).trans hg5
      have hb28 := bstepC hb25 hb58
      have HB28 := Lib.hid hb28
      have HG5 := Lib.hid hg58
      have HG8 := Lib.hid hg8
      have hlt5 := lt_of_blk hg58
      have hlt8 := lt_of_blk hg8
      clear hw8 hb6 hb7 hb57 hg5 hg58 hg8 hb58 hb25 hb28
      go_wp2_with fail
      go_at_call 16
      refine (HAW.out _).mono ?_
      rintro e w9 ⟨rfl, hb9⟩
      go_wp2_with fail
      go_at_call 15
      refine (HGY.out _ _ _ _ (HO1.out.below (bstepC HB28.out hb9))).mono ?_
      rintro e w' ⟨rfl, hw⟩; obtain rfl := hw.symm
      go_wp2_with fail
      go_at_call 15
      refine (HGZ.out _ _ _ _ (HO2.out.below (bstepC HB28.out hb9))).mono ?_
      rintro e w' ⟨rfl, hw⟩; obtain rfl := hw.symm
      have HY1 := Lib.hid (HO1.out.below (bstepC HB28.out hb9))
      have HY2 := Lib.hid (HO2.out.below (bstepC HB28.out hb9))
      go_wp2_with fail
      go_at_call 18
      refine (HCR.out _ _ _ _ HY1.out).mono ?_
      rintro e w10 ⟨v10, rfl, ho10, hb10⟩
      obtain ⟨A10, c10, rfl, hn10, hr10⟩ := ho10.form
      have HR10 := Lib.hid hr10
      have hb2A := bstepC (bstepC HB28.out hb9) hb10
      have hb8A := bstepC hb9 hb10
      clear hr10 ho10
      go_upto_region 12 with fail
      have hgG : ((w10.alloc (.cells #[.int .i64 cy.length, .int .i64 0, .int .i64 0, .int .i64 0, .int .i64 0, .int .i64 0, .int .i64 0, .string ⟨#[]⟩] 47)).alloc (.cells #[] 5)).heap[w10.heap.size]? = some (.cells (headN cy 0).toArray 47 (0, 0)) := by
        rw [alloc_old _ (by simp), heap_alloc_new]; rfl
      have hown0 : ((w10.alloc (.cells #[.int .i64 cy.length, .int .i64 0, .int .i64 0, .int .i64 0, .int .i64 0, .int .i64 0, .int .i64 0, .string ⟨#[]⟩] 47)).alloc (.cells #[] 5)).ownsRow (w10.heap.size + 1) 5 1 (.slice (some ⟨w10.heap.size + 1, 0, none⟩) 0 0) 0 [] := by
        have h := own_empty (w10.alloc (.cells #[.int .i64 cy.length, .int .i64 0, .int .i64 0, .int .i64 0, .int .i64 0, .int .i64 0, .int .i64 0, .string ⟨#[]⟩] 47)) 5 (w10.heap.size + 1) (by simp)
        simpa using h
      have hb0 : Below w10.heap.size w10 ((w10.alloc (.cells #[.int .i64 cy.length, .int .i64 0, .int .i64 0, .int .i64 0, .int .i64 0, .int .i64 0, .int .i64 0, .string ⟨#[]⟩] 47)).alloc (.cells #[] 5)) := ((Below.refl _ _).alloc (Nat.le_refl _) _).alloc (by simp) _
      obtain ⟨i0, hi, hz0, hz1, hz2⟩ := info_parts info_u8
      have hcl60 : cy.length ≤ 60 := by omega
      go_loopw [11, 71] (fun y x wr => ∃ (i : Nat), i ≤ cy.length ∧ x = .int .i64 i ∧ wr.heap[w10.heap.size]? = some (.cells (headN cy i).toArray 47 (0, 0)) ∧ wr.ownsRow (w10.heap.size + 1) 5 1 y (restN cy i).length (bytes8 (restN cy i)) ∧ Below w10.heap.size w10 wr) (fun _ x _ => cy.length - (intOf x).toNat)
      case atStart => exact ⟨0, Nat.zero_le _, rfl, hgG, by rw [restN_small cy 0 (by omega)]; exact hown0, hb0⟩
      case round =>
        clear hgG hown0 hb0
        obtain ⟨i, hi', rfl, hgi, howni, hbi⟩ := hrel
        by_cases hlt : i < cy.length
        · obtain ⟨b, off, rfl, hcell⟩ := (HR10.out.below hbi).int i hlt rfl
          have hli := HCYI.out _ (getD_mem cy i hlt)
          have hHG := Lib.hid hgi
          have hlg := lt_of_blk hgi
          have HBI := Lib.hid hbi
          have HOWN := Lib.hid howni
          clear hgi hbi howni
          by_cases h6 : i < 6
          · have h6' : (i : Int) < 6 := by omega
            have hsm := headN_small cy i h6
            have hrs := restN_small cy i (by omega)
            have hrs' := restN_small cy (i + 1) (by omega)
            obtain ⟨uu, hcc⟩ : ∃ u, wr.cell? ⟨w10.heap.size, 1 + i, none⟩ = some u := by
              refine ⟨_, (cell_of_blk hHG.out (1 + i)).trans (Array.getElem?_eq_getElem ?_)⟩
              simp [headN]; omega
            have hfz := frozen_of_blk hHG.out (1 + i)
            generalize cy.getD i 0 = L at *
            have hset := set_blk hHG.out (1 + i) (.int .i64 L)
            rw [hsm] at hset
            have HSET := Lib.hid hset
            have HRS := Lib.hid (And.intro hrs hrs')
            have hfr := (Fr.refl (fun x => x = w10.heap.size) wr).setCell ⟨w10.heap.size, 1 + i, none⟩ (.int .i64 L) (.inl rfl)
            have HFR := Lib.hid hfr
            clear hsm hrs hrs' hset hfr hHG
            go_wp2_with fail
            go_roundw
            case rel => exact ⟨i + 1, by omega, by go_num, HSET.out, by rw [HRS.out.2]; have h := HFR.out.own HOWN.out (fun b hb e => by have := (own_lt HOWN.out hb).1; omega); rw [HRS.out.1] at h; exact h, HBI.out.trans (HFR.out.below (Nat.le_of_lt hlg) (fun b e => by omega))⟩
            case measure => simp [intOf]; omega
          · have h6' : ¬ (i : Int) < 6 := by omega
            have hbg := headN_big cy i (by omega)
            have hrb := restN_big cy i (by omega) hlt
            have hrl := restN_len cy i hcl60 HCYI.out
            generalize cy.getD i 0 = L at *
            have hzg := rzig_any L wr hli.1 hli.2
            obtain ⟨hzn, hzl⟩ := zigN_eq L hli
            rw [hzn] at hzg
            generalize zigN L = Z at *
            have hvi := rvarint_any Z wr hzl
            have hvl := vint_length64 Z hzl
            have HB6 := Lib.hid (And.intro hbg hrb)
            generalize restN cy i = RI at *
            generalize vint Z = VZ at *
            clear hbg hrb hzn
            go_wp2_with (first | (go_at_call 29; refine hzg.mono ?_; rintro e w' ⟨rfl, hw⟩; obtain rfl := hw) | (go_at_call 28; refine hvi.mono ?_; rintro e w13 ⟨v13, rfl, ho13, hb13⟩; obtain ⟨A13, c13, rfl, _, hr13⟩ := ownsRow_form ho13; have hown13 := own_below HOWN.out hb13; clear ho13 hvi) | (at_builtin; refine appR (w10.heap.size + 1) wr w13 5 rfl _ _ 50 rfl i0 (.int .u8 0) 1 Try.underlying50 hi hz0 hz1 hz2 rfl (by decide) _ RI.length _ rfl (by omega) hown13 (hb13.mono (by omega)) A13 VZ.length c13 _ rfl hr13 (bytes8_cell _) (by omega) ?_))
            intro v14 w14 hown14 hb14 hg14
            have HO14 := Lib.hid hown14
            have HB14 := Lib.hid hb14
            clear hown14 hb14 hg14 hown13 hb13 hr13
            go_wp2_with fail
            go_roundw
            case rel => exact ⟨i + 1, by omega, by go_num, by rw [HB6.out.1]; exact (HB14.out.block _ (by omega)).trans hHG.out, by rw [HB6.out.2, List.length_append, bytes8_append]; exact HO14.out, HBI.out.trans (HB14.out.mono (by omega))⟩
            case measure => simp [intOf]; omega
        · obtain rfl : i = cy.length := by omega
          rw [headN_end] at hgi
          obtain ⟨A14, c14, rfl, _, hr14⟩ := ownsRow_form howni
          have hcv := run_str (P := Try.prog) (c := c14) 50 9 5 Try.underlying50 Try.underlying5 Try.underlying9 rfl hr14 (packs_bytes _)
          have hsK : strOf (restN cy cy.length) = ky.s := by rw [HKYD.out]
          rw [hsK] at hcv
          have hLK : headL cy = [.int .i64 ky.n, .int .i64 ky.a, .int .i64 ky.b, .int .i64 ky.c, .int .i64 ky.d, .int .i64 ky.e, .int .i64 ky.f, .string ⟨#[]⟩] := by rw [HKYD.out]; rfl
          rw [hLK] at hgi
          have hset := set_blk hgi 7 (.string ky.s)
          have hset' : (wr.setCell ⟨w10.heap.size, 7, none⟩ (.string ky.s)).heap[w10.heap.size]? = some (.cells #[.int .i64 ky.n, .int .i64 ky.a, .int .i64 ky.b, .int .i64 ky.c, .int .i64 ky.d, .int .i64 ky.e, .int .i64 ky.f, .string ky.s] 47 (0, 0)) := by rw [hset]; rfl
          have hfr := (Fr.refl (fun x => x = w10.heap.size) wr).setCell ⟨w10.heap.size, 7, none⟩ (.string ky.s) (.inl rfl)
          have hb15 := hbi.trans (hfr.below (Nat.le_of_lt (lt_of_blk hgi)) (fun b e => by omega))
          obtain ⟨z0, z1, z2, z3, z4, z5, z6, z7⟩ := box8 hgi
          obtain ⟨p0, p1, p2, p3, p4, p5, p6, p7⟩ := froz8 hgi
          generalize restN cy cy.length = RC at *
          have HSET := Lib.hid hset'
          have HB15 := Lib.hid hb15
          clear hset hset' hfr hb15 hgi howni hr14 hbi hsK hLK
          go_upto_region 19 with fail
          obtain ⟨W15, hW15⟩ : ∃ W, W = wr.setCell ⟨w10.heap.size, 7, none⟩ (.string ky.s) := ⟨_, rfl⟩
          rw [← hW15]
          have HS15 := Lib.hid (And.intro HSET.out HB15.out)
          rw [← hW15] at HS15
          clear hW15 z0 z1 z2 z3 z4 z5 z6 z7 p0 p1 p2 p3 p4 p5 p6 p7 hcv HSET HB15
          have hb0F := bstepC hb8A HS15.out.2
          have hg5F := (hb0F.block _ hlt5).trans HG5.out
          have hg8F := (hb0F.block _ hlt8).trans HG8.out
          have hgGF := HS15.out.1
          have hcs : ∀ W', Below W15.heap.size W15 W' → (W'.cell? ⟨w4.heap.size, 0, none⟩ = some (.int .i64 ky.n) ∧ W'.cell? ⟨w4.heap.size, 1, none⟩ = some (.int .i64 ky.a) ∧ W'.cell? ⟨w4.heap.size, 2, none⟩ = some (.int .i64 ky.b) ∧ W'.cell? ⟨w4.heap.size, 3, none⟩ = some (.int .i64 ky.c) ∧ W'.cell? ⟨w4.heap.size, 4, none⟩ = some (.int .i64 ky.d) ∧ W'.cell? ⟨w4.heap.size, 5, none⟩ = some (.int .i64 ky.e) ∧ W'.cell? ⟨w4.heap.size, 6, none⟩ = some (.int .i64 ky.f) ∧ W'.cell? ⟨w4.heap.size, 7, none⟩ = some (.string ky.s)) ∧
              (W'.cell? ⟨w7.heap.size, 0, none⟩ = some (.int .i64 kz.n) ∧ W'.cell? ⟨w7.heap.size, 1, none⟩ = some (.int .i64 kz.a) ∧ W'.cell? ⟨w7.heap.size, 2, none⟩ = some (.int .i64 kz.b) ∧ W'.cell? ⟨w7.heap.size, 3, none⟩ = some (.int .i64 kz.c) ∧ W'.cell? ⟨w7.heap.size, 4, none⟩ = some (.int .i64 kz.d) ∧ W'.cell? ⟨w7.heap.size, 5, none⟩ = some (.int .i64 kz.e) ∧ W'.cell? ⟨w7.heap.size, 6, none⟩ = some (.int .i64 kz.f) ∧ W'.cell? ⟨w7.heap.size, 7, none⟩ = some (.string kz.s)) ∧
              (W'.cell? ⟨w10.heap.size, 0, none⟩ = some (.int .i64 ky.n) ∧ W'.cell? ⟨w10.heap.size, 1, none⟩ = some (.int .i64 ky.a) ∧ W'.cell? ⟨w10.heap.size, 2, none⟩ = some (.int .i64 ky.b) ∧ W'.cell? ⟨w10.heap.size, 3, none⟩ = some (.int .i64 ky.c) ∧ W'.cell? ⟨w10.heap.size, 4, none⟩ = some (.int .i64 ky.d) ∧ W'.cell? ⟨w10.heap.size, 5, none⟩ = some (.int .i64 ky.e) ∧ W'.cell? ⟨w10.heap.size, 6, none⟩ = some (.int .i64 ky.f) ∧ W'.cell? ⟨w10.heap.size, 7, none⟩ = some (.string ky.s)) := fun W' hW' =>
            ⟨box8 ((hW'.block _ (lt_of_blk hg5F)).trans hg5F), box8 ((hW'.block _ (lt_of_blk hg8F)).trans hg8F), box8 ((hW'.block _ (lt_of_blk hgGF)).trans hgGF)⟩
          have hr10 := HR10.out.below HS15.out.2
          have hy2 := HY2.out.below (bstepC hb10 HS15.out.2)
          have hbF := bstepC HB2.out (bstepC HB28.out hb0F)
          have HCS := Lib.hid hcs
          have HR15 := Lib.hid hr10
          have HY15 := Lib.hid hy2
          have HBF := Lib.hid hbF
          have harr1 : ∀ w, (Op.equalIn 9999 45 (.agg #[.int .i64 ky.a, .int .i64 ky.b, .int .i64 ky.c, .int .i64 ky.d, .int .i64 ky.e, .int .i64 ky.f]) (.agg #[.int .i64 ky.a, .int .i64 ky.b, .int .i64 ky.c, .int .i64 ky.d, .int .i64 ky.e, .int .i64 ky.f])).run Try.prog w = .ok true w := fun w => by
            have h := run_arr6 ky.a ky.b ky.c ky.d ky.e ky.f ky.a ky.b ky.c ky.d ky.e ky.f w 9997
            rw [decide_eq_true ⟨rfl, rfl, rfl, rfl, rfl, rfl⟩] at h
            exact h
          have harr2 : ∀ w, (Op.equalIn 9999 45 (.agg #[.int .i64 ky.a, .int .i64 ky.b, .int .i64 ky.c, .int .i64 ky.d, .int .i64 ky.e, .int .i64 ky.f]) (.agg #[.int .i64 kz.a, .int .i64 kz.b, .int .i64 kz.c, .int .i64 kz.d, .int .i64 kz.e, .int .i64 kz.f])).run Try.prog w = .ok (decide (ky.a = kz.a ∧ ky.b = kz.b ∧ ky.c = kz.c ∧ ky.d = kz.d ∧ ky.e = kz.e ∧ ky.f = kz.f)) w := fun w => run_arr6 ky.a ky.b ky.c ky.d ky.e ky.f kz.a kz.b kz.c kz.d kz.e kz.f w 9997
          have hb15 := Below.refl W15.heap.size W15
          have hsame := fun A17 c17 w17 (hr : Rd w17 1 A10 cy.length (ints cy)) hr17 => same_any cy cz A10 A17 cy.length c10 cz.length c17 w17 rfl (by unfold maxLen; omega) hr rfl (by unfold maxLen; omega) hr17
          have HSM := Lib.hid hsame
          clear hcs hr10 hy2 hbF hg5F hg8F hgGF hb0F hsame hb2A hb8A hb10 hb9 hlt hi'
          by_cases hE : cy = cz
          · have hK := HKI.out.2 hE
            subst hK
            have hsm : decide (cy = cz) = true := decide_eq_true hE
            have HSD := Lib.hid hsm
            clear hE hsm harr2
            go_region_held3 (fun W' => (W'.cell? ⟨w4.heap.size, 0, none⟩ = some (.int .i64 ky.n) ∧ W'.cell? ⟨w4.heap.size, 1, none⟩ = some (.int .i64 ky.a) ∧ W'.cell? ⟨w4.heap.size, 2, none⟩ = some (.int .i64 ky.b) ∧ W'.cell? ⟨w4.heap.size, 3, none⟩ = some (.int .i64 ky.c) ∧ W'.cell? ⟨w4.heap.size, 4, none⟩ = some (.int .i64 ky.d) ∧ W'.cell? ⟨w4.heap.size, 5, none⟩ = some (.int .i64 ky.e) ∧ W'.cell? ⟨w4.heap.size, 6, none⟩ = some (.int .i64 ky.f) ∧ W'.cell? ⟨w4.heap.size, 7, none⟩ = some (.string ky.s)) ∧ (W'.cell? ⟨w7.heap.size, 0, none⟩ = some (.int .i64 ky.n) ∧ W'.cell? ⟨w7.heap.size, 1, none⟩ = some (.int .i64 ky.a) ∧ W'.cell? ⟨w7.heap.size, 2, none⟩ = some (.int .i64 ky.b) ∧ W'.cell? ⟨w7.heap.size, 3, none⟩ = some (.int .i64 ky.c) ∧ W'.cell? ⟨w7.heap.size, 4, none⟩ = some (.int .i64 ky.d) ∧ W'.cell? ⟨w7.heap.size, 5, none⟩ = some (.int .i64 ky.e) ∧ W'.cell? ⟨w7.heap.size, 6, none⟩ = some (.int .i64 ky.f) ∧ W'.cell? ⟨w7.heap.size, 7, none⟩ = some (.string ky.s)) ∧ (W'.cell? ⟨w10.heap.size, 0, none⟩ = some (.int .i64 ky.n) ∧ W'.cell? ⟨w10.heap.size, 1, none⟩ = some (.int .i64 ky.a) ∧ W'.cell? ⟨w10.heap.size, 2, none⟩ = some (.int .i64 ky.b) ∧ W'.cell? ⟨w10.heap.size, 3, none⟩ = some (.int .i64 ky.c) ∧ W'.cell? ⟨w10.heap.size, 4, none⟩ = some (.int .i64 ky.d) ∧ W'.cell? ⟨w10.heap.size, 5, none⟩ = some (.int .i64 ky.e) ∧ W'.cell? ⟨w10.heap.size, 6, none⟩ = some (.int .i64 ky.f) ∧ W'.cell? ⟨w10.heap.size, 7, none⟩ = some (.string ky.s))) (first | exact HCS.out _ hb17 | exact HCS.out _ hb16 | exact HCS.out _ (below_drewA hb15) | exact HCS.out _ hb15) (first | (go_at_call 18; refine (HCRZ.out _ _ _ _ (HY15.out.below (below_drewA hb15))).mono ?_; rintro e w16 ⟨v16, rfl, ho16, hx⟩; have hb16 := bstepC (below_drewA hb15) hx; obtain ⟨A16, c16, rfl, _, hr16⟩ := ho16.form; have hsmc := HSM.out A16 c16 w16 (HR15.out.below hb16) hr16; rw [HSD.out] at hsmc; clear ho16 hx hr16) | (go_at_call 19; refine hsmc.mono ?_; rintro e w17 ⟨rfl, q17, rfl⟩; have hb17 := below_drewN hb16 q17))
            all_goals
              go_wp2_with fail
              go_ret
              exact ⟨by first | rfl | simp, bstepC HBF.out hb17⟩
          · have hK : ¬ ky = kz := fun h => hE (HKI.out.1 h)
            have hsm : decide (cy = cz) = false := decide_eq_false hE
            have HSD := Lib.hid hsm
            clear hsm hE
            by_cases hn : ky.n = kz.n
            · by_cases ha : ky.a = kz.a ∧ ky.b = kz.b ∧ ky.c = kz.c ∧ ky.d = kz.d ∧ ky.e = kz.e ∧ ky.f = kz.f
              · rw [decide_eq_true ha] at harr2
                have hs : ¬ ky.s.toList = kz.s.toList := fun h => hK (by
                  rw [ByteArray.toList_eq, ByteArray.toList_eq] at h
                  obtain ⟨n1, a1, b1, c1, d1, e1, f1, ⟨⟨s1⟩⟩⟩ := ky
                  obtain ⟨n2, a2, b2, c2, d2, e2, f2, ⟨⟨s2⟩⟩⟩ := kz
                  simp only at hn ha h
                  obtain ⟨rfl, rfl, rfl, rfl, rfl, rfl⟩ := ha
                  rw [hn, h])
                clear ha hK
                go_region_held3 (fun W' => (W'.cell? ⟨w4.heap.size, 0, none⟩ = some (.int .i64 ky.n) ∧ W'.cell? ⟨w4.heap.size, 1, none⟩ = some (.int .i64 ky.a) ∧ W'.cell? ⟨w4.heap.size, 2, none⟩ = some (.int .i64 ky.b) ∧ W'.cell? ⟨w4.heap.size, 3, none⟩ = some (.int .i64 ky.c) ∧ W'.cell? ⟨w4.heap.size, 4, none⟩ = some (.int .i64 ky.d) ∧ W'.cell? ⟨w4.heap.size, 5, none⟩ = some (.int .i64 ky.e) ∧ W'.cell? ⟨w4.heap.size, 6, none⟩ = some (.int .i64 ky.f) ∧ W'.cell? ⟨w4.heap.size, 7, none⟩ = some (.string ky.s)) ∧ (W'.cell? ⟨w7.heap.size, 0, none⟩ = some (.int .i64 kz.n) ∧ W'.cell? ⟨w7.heap.size, 1, none⟩ = some (.int .i64 kz.a) ∧ W'.cell? ⟨w7.heap.size, 2, none⟩ = some (.int .i64 kz.b) ∧ W'.cell? ⟨w7.heap.size, 3, none⟩ = some (.int .i64 kz.c) ∧ W'.cell? ⟨w7.heap.size, 4, none⟩ = some (.int .i64 kz.d) ∧ W'.cell? ⟨w7.heap.size, 5, none⟩ = some (.int .i64 kz.e) ∧ W'.cell? ⟨w7.heap.size, 6, none⟩ = some (.int .i64 kz.f) ∧ W'.cell? ⟨w7.heap.size, 7, none⟩ = some (.string kz.s)) ∧ (W'.cell? ⟨w10.heap.size, 0, none⟩ = some (.int .i64 ky.n) ∧ W'.cell? ⟨w10.heap.size, 1, none⟩ = some (.int .i64 ky.a) ∧ W'.cell? ⟨w10.heap.size, 2, none⟩ = some (.int .i64 ky.b) ∧ W'.cell? ⟨w10.heap.size, 3, none⟩ = some (.int .i64 ky.c) ∧ W'.cell? ⟨w10.heap.size, 4, none⟩ = some (.int .i64 ky.d) ∧ W'.cell? ⟨w10.heap.size, 5, none⟩ = some (.int .i64 ky.e) ∧ W'.cell? ⟨w10.heap.size, 6, none⟩ = some (.int .i64 ky.f) ∧ W'.cell? ⟨w10.heap.size, 7, none⟩ = some (.string ky.s))) (first | exact HCS.out _ hb17 | exact HCS.out _ hb16 | exact HCS.out _ (below_drewA hb15) | exact HCS.out _ hb15) (first | (go_at_call 18; refine (HCRZ.out _ _ _ _ (HY15.out.below (below_drewA hb15))).mono ?_; rintro e w16 ⟨v16, rfl, ho16, hx⟩; have hb16 := bstepC (below_drewA hb15) hx; obtain ⟨A16, c16, rfl, _, hr16⟩ := ho16.form; have hsmc := HSM.out A16 c16 w16 (HR15.out.below hb16) hr16; rw [HSD.out] at hsmc; clear ho16 hx hr16) | (go_at_call 19; refine hsmc.mono ?_; rintro e w17 ⟨rfl, q17, rfl⟩; have hb17 := below_drewN hb16 q17))
                all_goals
                  go_wp2_with fail
                  go_ret
                  exact ⟨by first | rfl | simp, bstepC HBF.out hb17⟩
              · rw [decide_eq_false ha] at harr2
                clear ha hK
                go_region_held3 (fun W' => (W'.cell? ⟨w4.heap.size, 0, none⟩ = some (.int .i64 ky.n) ∧ W'.cell? ⟨w4.heap.size, 1, none⟩ = some (.int .i64 ky.a) ∧ W'.cell? ⟨w4.heap.size, 2, none⟩ = some (.int .i64 ky.b) ∧ W'.cell? ⟨w4.heap.size, 3, none⟩ = some (.int .i64 ky.c) ∧ W'.cell? ⟨w4.heap.size, 4, none⟩ = some (.int .i64 ky.d) ∧ W'.cell? ⟨w4.heap.size, 5, none⟩ = some (.int .i64 ky.e) ∧ W'.cell? ⟨w4.heap.size, 6, none⟩ = some (.int .i64 ky.f) ∧ W'.cell? ⟨w4.heap.size, 7, none⟩ = some (.string ky.s)) ∧ (W'.cell? ⟨w7.heap.size, 0, none⟩ = some (.int .i64 kz.n) ∧ W'.cell? ⟨w7.heap.size, 1, none⟩ = some (.int .i64 kz.a) ∧ W'.cell? ⟨w7.heap.size, 2, none⟩ = some (.int .i64 kz.b) ∧ W'.cell? ⟨w7.heap.size, 3, none⟩ = some (.int .i64 kz.c) ∧ W'.cell? ⟨w7.heap.size, 4, none⟩ = some (.int .i64 kz.d) ∧ W'.cell? ⟨w7.heap.size, 5, none⟩ = some (.int .i64 kz.e) ∧ W'.cell? ⟨w7.heap.size, 6, none⟩ = some (.int .i64 kz.f) ∧ W'.cell? ⟨w7.heap.size, 7, none⟩ = some (.string kz.s)) ∧ (W'.cell? ⟨w10.heap.size, 0, none⟩ = some (.int .i64 ky.n) ∧ W'.cell? ⟨w10.heap.size, 1, none⟩ = some (.int .i64 ky.a) ∧ W'.cell? ⟨w10.heap.size, 2, none⟩ = some (.int .i64 ky.b) ∧ W'.cell? ⟨w10.heap.size, 3, none⟩ = some (.int .i64 ky.c) ∧ W'.cell? ⟨w10.heap.size, 4, none⟩ = some (.int .i64 ky.d) ∧ W'.cell? ⟨w10.heap.size, 5, none⟩ = some (.int .i64 ky.e) ∧ W'.cell? ⟨w10.heap.size, 6, none⟩ = some (.int .i64 ky.f) ∧ W'.cell? ⟨w10.heap.size, 7, none⟩ = some (.string ky.s))) (first | exact HCS.out _ hb17 | exact HCS.out _ hb16 | exact HCS.out _ (below_drewA hb15) | exact HCS.out _ hb15) (first | (go_at_call 18; refine (HCRZ.out _ _ _ _ (HY15.out.below (below_drewA hb15))).mono ?_; rintro e w16 ⟨v16, rfl, ho16, hx⟩; have hb16 := bstepC (below_drewA hb15) hx; obtain ⟨A16, c16, rfl, _, hr16⟩ := ho16.form; have hsmc := HSM.out A16 c16 w16 (HR15.out.below hb16) hr16; rw [HSD.out] at hsmc; clear ho16 hx hr16) | (go_at_call 19; refine hsmc.mono ?_; rintro e w17 ⟨rfl, q17, rfl⟩; have hb17 := below_drewN hb16 q17))
                all_goals
                  go_wp2_with fail
                  go_ret
                  exact ⟨by first | rfl | simp, bstepC HBF.out hb17⟩
            · clear harr2 hK
              go_region_held3 (fun W' => (W'.cell? ⟨w4.heap.size, 0, none⟩ = some (.int .i64 ky.n) ∧ W'.cell? ⟨w4.heap.size, 1, none⟩ = some (.int .i64 ky.a) ∧ W'.cell? ⟨w4.heap.size, 2, none⟩ = some (.int .i64 ky.b) ∧ W'.cell? ⟨w4.heap.size, 3, none⟩ = some (.int .i64 ky.c) ∧ W'.cell? ⟨w4.heap.size, 4, none⟩ = some (.int .i64 ky.d) ∧ W'.cell? ⟨w4.heap.size, 5, none⟩ = some (.int .i64 ky.e) ∧ W'.cell? ⟨w4.heap.size, 6, none⟩ = some (.int .i64 ky.f) ∧ W'.cell? ⟨w4.heap.size, 7, none⟩ = some (.string ky.s)) ∧ (W'.cell? ⟨w7.heap.size, 0, none⟩ = some (.int .i64 kz.n) ∧ W'.cell? ⟨w7.heap.size, 1, none⟩ = some (.int .i64 kz.a) ∧ W'.cell? ⟨w7.heap.size, 2, none⟩ = some (.int .i64 kz.b) ∧ W'.cell? ⟨w7.heap.size, 3, none⟩ = some (.int .i64 kz.c) ∧ W'.cell? ⟨w7.heap.size, 4, none⟩ = some (.int .i64 kz.d) ∧ W'.cell? ⟨w7.heap.size, 5, none⟩ = some (.int .i64 kz.e) ∧ W'.cell? ⟨w7.heap.size, 6, none⟩ = some (.int .i64 kz.f) ∧ W'.cell? ⟨w7.heap.size, 7, none⟩ = some (.string kz.s)) ∧ (W'.cell? ⟨w10.heap.size, 0, none⟩ = some (.int .i64 ky.n) ∧ W'.cell? ⟨w10.heap.size, 1, none⟩ = some (.int .i64 ky.a) ∧ W'.cell? ⟨w10.heap.size, 2, none⟩ = some (.int .i64 ky.b) ∧ W'.cell? ⟨w10.heap.size, 3, none⟩ = some (.int .i64 ky.c) ∧ W'.cell? ⟨w10.heap.size, 4, none⟩ = some (.int .i64 ky.d) ∧ W'.cell? ⟨w10.heap.size, 5, none⟩ = some (.int .i64 ky.e) ∧ W'.cell? ⟨w10.heap.size, 6, none⟩ = some (.int .i64 ky.f) ∧ W'.cell? ⟨w10.heap.size, 7, none⟩ = some (.string ky.s))) (first | exact HCS.out _ hb17 | exact HCS.out _ hb16 | exact HCS.out _ (below_drewA hb15) | exact HCS.out _ hb15) (first | (go_at_call 18; refine (HCRZ.out _ _ _ _ (HY15.out.below (below_drewA hb15))).mono ?_; rintro e w16 ⟨v16, rfl, ho16, hx⟩; have hb16 := bstepC (below_drewA hb15) hx; obtain ⟨A16, c16, rfl, _, hr16⟩ := ho16.form; have hsmc := HSM.out A16 c16 w16 (HR15.out.below hb16) hr16; rw [HSD.out] at hsmc; clear ho16 hx hr16) | (go_at_call 19; refine hsmc.mono ?_; rintro e w17 ⟨rfl, q17, rfl⟩; have hb17 := below_drewN hb16 q17))
              all_goals
                go_wp2_with fail
                go_ret
                exact ⟨by first | rfl | simp, bstepC HBF.out hb17⟩
end Go.Proofs.Ytbcabcdgblmnkaa
