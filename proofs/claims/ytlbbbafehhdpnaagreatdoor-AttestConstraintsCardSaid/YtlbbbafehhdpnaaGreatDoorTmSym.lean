/- Contract: the merge of two neighbouring runs of terms in place, where one is a single term. -/
import Derived.Test.YtlbbbafehhdpnaaGreatDoorTmSort
namespace Go.Proofs.YtlbbbafehhdpnaaGreatDoor
open Go.RowKit
set_option linter.unusedVariables false
set_option linter.unusedSimpArgs false

set_option maxRecDepth 100000 in
set_option maxHeartbeats 4000000 in
theorem sym_one (l : List TB) (g c a m b : Nat) (w : World) (h : TRow w g c l) (ham : m = a + 1) (hmb : m < b) (hb : b ≤ l.length) (hbnd : l.length ≤ 1000) :
    Calls Tryz.prog 71 #[.slice (some ⟨g, 0, none⟩) l.length c, .int .i64 (a : Int), .int .i64 (m : Int), .int .i64 (b : Int), .func (.func 38) #[] #[]] w fun e w' => e = .returned (.tuple #[]) ∧ ∃ l', l'.Perm l ∧ TRow w' g c l' ∧ Fr (fun k => k = g) w w' := by
  have H := Lib.hid h
  have e1 : (m : Int) - (a : Int) = 1 := by omega
  have ham1 : a < m := by omega
  have ham2 : m ≤ a + 1 := by omega
  clear h ham
  go_enter Tryz.func71, Tryz.ntmps71
  go_upto_block 0 with fail
  clear e1
  go_cut [10, 11] (fun x _ wx => ∃ i : Nat, m ≤ i ∧ i ≤ b ∧ x = .int .i64 i ∧ Below w.heap.size w wx)
  case first =>
    go_wp2_with fail
    go_loopw [10, 11] (fun x y wr => ∃ (i j : Nat), m ≤ i ∧ i ≤ j ∧ j ≤ b ∧ x = .int .i64 i ∧ y = .int .i64 j ∧ Below w.heap.size w wr) (fun x y _ => (intOf y).toNat - (intOf x).toNat)
    case atStart => exact ⟨m, b, by omega, by omega, by omega, rfl, rfl, Below.refl _ _⟩
    case round =>
      obtain ⟨i, j, hmi, hij, hjb, rfl, rfl, hb1⟩ := hrel
      obtain ⟨w1, rfl⟩ : ∃ x, x = wr := ⟨_, rfl⟩
      have HB1 := Lib.hid hb1
      have HT := Lib.hid (H.out.below hb1)
      clear hb1
      by_cases hlt : i < j
      · obtain ⟨p, hp⟩ : ∃ p, p = (i + j) / 2 := ⟨_, rfl⟩
        have hp1 : i ≤ p := by omega
        have hp2 : p < j := by omega
        have hij2 : ((i : Int) + (j : Int)) / 2 = (p : Int) := by omega
        obtain ⟨x, hx⟩ : ∃ x, l[p]? = some x := ⟨_, List.getElem?_eq_getElem (by omega)⟩
        obtain ⟨y, hy⟩ : ∃ y, l[a]? = some y := ⟨_, List.getElem?_eq_getElem (by omega)⟩
        have hl1000 : (l.length : Int) ≤ 1000 := by omega
        clear hp
        have bp0 : (0 : Int) ≤ (p : Int) := by omega
        have bp1 : (p : Int) < (l.length : Int) := by omega
        have bp2 : p < l.length := by omega
        have bp3 : IntKind.i64.wrap (p : Int) = (p : Int) := IntWalk.i64_in _ (by omega)
        have ba0 : (0 : Int) ≤ (a : Int) := by omega
        have ba1 : (a : Int) < (l.length : Int) := by omega
        have ba2 : a < l.length := by omega
        have ba3 : IntKind.i64.wrap (a : Int) = (a : Int) := IntWalk.i64_in _ (by omega)
        have hcs : ∀ W', Below w1.heap.size w1 W' → _ := fun W' h => And.intro ((HT.out.below h).cell hx) ((HT.out.below h).cell hy)
        have hcm := fun W => cmp_term x y W
        obtain ⟨z, hz⟩ : ∃ z, z = cmpT x y := ⟨_, rfl⟩
        rw [← hz] at hcm
        unfold tmV at hcm
        have HCS := Lib.hid hcs
        have HCM := Lib.hid hcm
        have HX := Lib.hid hx
        have HY := Lib.hid hy
        clear hcs hcm hz hx hy
        go_upto_region 5 with fail
        go_cut [50] (fun v wx => v = .bool (decide (z < 0)) ∧ Below w1.heap.size w1 wx)
        case first =>
          go_region_held3 (fun W' => (W'.cell? ⟨g, p * 4, none⟩ = some (.int .i64 x.2.1) ∧ W'.cell? ⟨g, p * 4 + 1, none⟩ = some (.bool (ratNeg x.2.2)) ∧ W'.cell? ⟨g, p * 4 + 2, none⟩ = some (.slice x.1.A x.1.n x.1.c) ∧ W'.cell? ⟨g, p * 4 + 3, none⟩ = some (.slice x.1.A2 x.1.n2 x.1.c2)) ∧ W'.cell? ⟨g, a * 4, none⟩ = some (.int .i64 y.2.1) ∧ W'.cell? ⟨g, a * 4 + 1, none⟩ = some (.bool (ratNeg y.2.2)) ∧ W'.cell? ⟨g, a * 4 + 2, none⟩ = some (.slice y.1.A y.1.n y.1.c) ∧ W'.cell? ⟨g, a * 4 + 3, none⟩ = some (.slice y.1.A2 y.1.n2 y.1.c2)) ((refine HCS.out _ ?_; first | with_reducible exact c1 | with_reducible exact below_drew2 (Below.refl _ _))) ((go_at_call 38; refine (HCM.out _).mono ?_; rintro e w5 ⟨rfl, hb5⟩; have c1 : Below w1.heap.size w1 w5 := (below_drew2 (Below.refl _ _)).trans (hb5.mono (Nat.le_refl _)); clear hb5))
          all_goals
            go_wp2_with fail
            go_meet
            exact ⟨rfl, c1⟩
        case rest =>
        obtain ⟨rfl, hb3⟩ := hcut
        obtain ⟨w3, rfl⟩ : ∃ x, x = wc := ⟨_, rfl⟩
        by_cases hz : z < 0
        · rw [decide_eq_true hz]
          clear hz bp3 ba3 hij2
          go_wp2_with fail
          go_roundw
          case rel => exact ⟨p + 1, j, by omega, by omega, hjb, by go_num, rfl, HB1.out.trans (hb3.mono HB1.out.size)⟩
          case measure => simp [intOf]; omega
        · rw [decide_eq_false hz]
          clear hz bp3 ba3 hij2
          go_wp2_with fail
          go_roundw
          case rel => exact ⟨i, p, by omega, by omega, by omega, rfl, rfl, HB1.out.trans (hb3.mono HB1.out.size)⟩
          case measure => simp [intOf]; omega
      · have hlt2 : ¬ ((i : Int) < (j : Int)) := by omega
        go_wp2_with fail
        go_meet
        exact ⟨i, hmi, by omega, rfl, HB1.out⟩
  case rest =>
  obtain ⟨i, hmi, hib, rfl, hb1⟩ := hcut
  obtain ⟨w1, rfl⟩ : ∃ x, x = wc := ⟨_, rfl⟩
  have HT := Lib.hid (H.out.below hb1)
  have HF := Lib.hid (Fr.of_below (S := fun k => k = g) hb1)
  clear hb1
  have hi1 : (i : Int) - 1 = ((i - 1 : Nat) : Int) := by omega
  have hib2 : (i : Int) ≤ 1000 := by omega
  obtain ⟨i', hi'⟩ : ∃ i', i' = i - 1 := ⟨_, rfl⟩
  rw [← hi'] at hi1
  have HI' := Lib.hid hi'
  clear hi'
  go_wp2_with fail
  go_loopw [13] (fun x wr => ∃ (k : Nat) (l1 : List TB), a ≤ k ∧ (k ≤ i' ∨ k ≤ a) ∧ x = .int .i64 k ∧ l1.Perm l ∧ TRow wr g c l1 ∧ Fr (fun k => k = g) w wr) (fun x _ => i' - (intOf x).toNat)
  case atStart => exact ⟨a, l, Nat.le_refl _, .inr (Nat.le_refl _), rfl, List.Perm.refl _, HT.out, HF.out⟩
  case round =>
    obtain ⟨k, l1, hak, hki, rfl, hp, ht, hf⟩ := hrel
    obtain ⟨w2, rfl⟩ : ∃ x, x = wr := ⟨_, rfl⟩
    have HP2 := Lib.hid hp
    have HT2 := Lib.hid ht
    have HF2 := Lib.hid hf
    have hlen := hp.length_eq
    clear hp ht hf
    by_cases hlt : k < i'
    · have hi'' := HI'.out
      have hk1 : k + 1 < l1.length := by omega
      obtain ⟨x2, hx2⟩ : ∃ x, l1[k]? = some x := ⟨_, List.getElem?_eq_getElem (by omega)⟩
      obtain ⟨y2, hy2⟩ : ∃ y, l1[k + 1]? = some y := ⟨_, List.getElem?_eq_getElem hk1⟩
      have d0 : (0 : Int) ≤ (k : Int) := by omega
      have d1 : (k : Int) < (l.length : Int) := by omega
      have d2 : (0 : Int) ≤ (k : Int) + 1 := by omega
      have d3 : (k : Int) + 1 < (l.length : Int) := by omega
      have d4 : k < l.length := by omega
      have d5 : k + 1 < l.length := by omega
      have d6 : ¬ (k * 4 = (k + 1) * 4) := by omega
      have d7 : ¬ ((k + 1) * 4 = k * 4) := by omega
      have d8 : (l.length : Int) ≤ 1000 := by omega
      have d9 : IntKind.i64.wrap (k : Int) = (k : Int) := IntWalk.i64_in _ (by omega)
      obtain ⟨q0, q1, q2, q3⟩ := HT2.out.cell hx2
      obtain ⟨p0, p1, p2, p3⟩ := HT2.out.cell hy2
      have z0 := fun i => HT2.out.fz i
      have HX2 := Lib.hid hx2
      have HY2 := Lib.hid hy2
      have HLEN2 := Lib.hid hlen
      clear hx2 hy2 hlen
      go_upto_region 11 with fail
      go_region
      clear q0 q1 q2 q3 p0 p1 p2 p3 z0 d6 d7 d9
      all_goals
        go_wp2_with fail
        go_roundw
        case rel => exact ⟨k + 1, exch l1 k (k + 1), by omega, by omega, by go_num, (exch_perm _ _ _).trans HP2.out, (HT2.out.exch HX2.out HY2.out).drew, ((HF2.out.trans (put4_fr _ _ _ _) (fun b hb => .inl hb)).trans (put4_fr _ _ _ _) (fun b hb => .inl hb)).drew⟩
        case measure => simp [intOf]; omega
    · have hlt2 : ¬ ((k : Int) < (i' : Int)) := by omega
      go_wp2_with fail
      refine bodyPost_ret (results_none rfl _ _ _) rfl ?_
      exact ⟨rfl, l1, HP2.out, HT2.out, HF2.out⟩
set_option maxRecDepth 100000 in
set_option maxHeartbeats 4000000 in
theorem sym_two (l : List TB) (g c a m b : Nat) (w : World) (h : TRow w g c l) (ham : a + 1 < m) (hmb : b = m + 1) (hb : b ≤ l.length) (hbnd : l.length ≤ 1000) :
    Calls Tryz.prog 71 #[.slice (some ⟨g, 0, none⟩) l.length c, .int .i64 (a : Int), .int .i64 (m : Int), .int .i64 (b : Int), .func (.func 38) #[] #[]] w fun e w' => e = .returned (.tuple #[]) ∧ ∃ l', l'.Perm l ∧ TRow w' g c l' ∧ Fr (fun k => k = g) w w' := by
  have H := Lib.hid h
  obtain ⟨d0, hd0⟩ : ∃ d0, d0 = m - a := ⟨_, rfl⟩
  have e1 : (m : Int) - (a : Int) = (d0 : Int) := by omega
  have e2 : ((d0 : Int) == 1) = false := by rw [beq_eq_false_iff_ne]; omega
  have e3 : (b : Int) - (m : Int) = 1 := by omega
  have hml : m < l.length := by omega
  clear h hmb hb hd0
  go_enter Tryz.func71, Tryz.ntmps71
  go_upto_block 4 with fail
  clear e1 e2 e3
  go_cut [14, 15] (fun x _ wx => ∃ i : Nat, a ≤ i ∧ i ≤ m ∧ x = .int .i64 i ∧ Below w.heap.size w wx)
  case first =>
    go_wp2_with fail
    go_loopw [14, 15] (fun x y wr => ∃ (i j : Nat), a ≤ i ∧ i ≤ j ∧ j ≤ m ∧ x = .int .i64 i ∧ y = .int .i64 j ∧ Below w.heap.size w wr) (fun x y _ => (intOf y).toNat - (intOf x).toNat)
    case atStart => exact ⟨a, m, by omega, by omega, by omega, rfl, rfl, Below.refl _ _⟩
    case round =>
      obtain ⟨i, j, hmi, hij, hjb, rfl, rfl, hb1⟩ := hrel
      obtain ⟨w1, rfl⟩ : ∃ x, x = wr := ⟨_, rfl⟩
      have HB1 := Lib.hid hb1
      have HT := Lib.hid (H.out.below hb1)
      clear hb1
      by_cases hlt : i < j
      · obtain ⟨p, hp⟩ : ∃ p, p = (i + j) / 2 := ⟨_, rfl⟩
        have hp1 : i ≤ p := by omega
        have hp2 : p < j := by omega
        have hij2 : ((i : Int) + (j : Int)) / 2 = (p : Int) := by omega
        obtain ⟨x, hx⟩ : ∃ x, l[m]? = some x := ⟨_, List.getElem?_eq_getElem (by omega)⟩
        obtain ⟨y, hy⟩ : ∃ y, l[p]? = some y := ⟨_, List.getElem?_eq_getElem (by omega)⟩
        have hl1000 : (l.length : Int) ≤ 1000 := by omega
        clear hp
        have bp0 : (0 : Int) ≤ (p : Int) := by omega
        have bp1 : (p : Int) < (l.length : Int) := by omega
        have bp2 : p < l.length := by omega
        have bp3 : IntKind.i64.wrap (p : Int) = (p : Int) := IntWalk.i64_in _ (by omega)
        have bm0 : (0 : Int) ≤ (m : Int) := by omega
        have bm1 : (m : Int) < (l.length : Int) := by omega
        have bm2 : m < l.length := by omega
        have bm3 : IntKind.i64.wrap (m : Int) = (m : Int) := IntWalk.i64_in _ (by omega)
        have hcs : ∀ W', Below w1.heap.size w1 W' → _ := fun W' h => And.intro ((HT.out.below h).cell hx) ((HT.out.below h).cell hy)
        have hcm := fun W => cmp_term x y W
        obtain ⟨z, hz⟩ : ∃ z, z = cmpT x y := ⟨_, rfl⟩
        rw [← hz] at hcm
        unfold tmV at hcm
        have HCS := Lib.hid hcs
        have HCM := Lib.hid hcm
        have HX := Lib.hid hx
        have HY := Lib.hid hy
        clear hcs hcm hz hx hy
        go_upto_region 17 with fail
        go_cut [103] (fun v wx => v = .bool (!decide (z < 0)) ∧ Below w1.heap.size w1 wx)
        case first =>
          go_region_held3 (fun W' => (W'.cell? ⟨g, m * 4, none⟩ = some (.int .i64 x.2.1) ∧ W'.cell? ⟨g, m * 4 + 1, none⟩ = some (.bool (ratNeg x.2.2)) ∧ W'.cell? ⟨g, m * 4 + 2, none⟩ = some (.slice x.1.A x.1.n x.1.c) ∧ W'.cell? ⟨g, m * 4 + 3, none⟩ = some (.slice x.1.A2 x.1.n2 x.1.c2)) ∧ W'.cell? ⟨g, p * 4, none⟩ = some (.int .i64 y.2.1) ∧ W'.cell? ⟨g, p * 4 + 1, none⟩ = some (.bool (ratNeg y.2.2)) ∧ W'.cell? ⟨g, p * 4 + 2, none⟩ = some (.slice y.1.A y.1.n y.1.c) ∧ W'.cell? ⟨g, p * 4 + 3, none⟩ = some (.slice y.1.A2 y.1.n2 y.1.c2)) ((refine HCS.out _ ?_; first | with_reducible exact c1 | with_reducible exact below_drew2 (Below.refl _ _))) ((go_at_call 38; refine (HCM.out _).mono ?_; rintro e w5 ⟨rfl, hb5⟩; have c1 : Below w1.heap.size w1 w5 := (below_drew2 (Below.refl _ _)).trans (hb5.mono (Nat.le_refl _)); clear hb5))
          all_goals
            go_wp2_with fail
            go_meet
            exact ⟨rfl, c1⟩
        case rest =>
        obtain ⟨rfl, hb3⟩ := hcut
        obtain ⟨w3, rfl⟩ : ∃ x, x = wc := ⟨_, rfl⟩
        by_cases hz : z < 0
        · rw [decide_eq_true hz]
          clear hz bp3 bm3 hij2
          go_wp2_with fail
          go_roundw
          case rel => exact ⟨i, p, by omega, by omega, by omega, rfl, rfl, HB1.out.trans (hb3.mono HB1.out.size)⟩
          case measure => simp [intOf]; omega
        · rw [decide_eq_false hz]
          clear hz bp3 bm3 hij2
          go_wp2_with fail
          go_roundw
          case rel => exact ⟨p + 1, j, by omega, by omega, hjb, by go_num, rfl, HB1.out.trans (hb3.mono HB1.out.size)⟩
          case measure => simp [intOf]; omega
      · have hlt2 : ¬ ((i : Int) < (j : Int)) := by omega
        go_wp2_with fail
        go_meet
        exact ⟨i, hmi, by omega, rfl, HB1.out⟩
  case rest =>
  obtain ⟨i, hmi, hib, rfl, hb1⟩ := hcut
  obtain ⟨w1, rfl⟩ : ∃ x, x = wc := ⟨_, rfl⟩
  have HT := Lib.hid (H.out.below hb1)
  have HF := Lib.hid (Fr.of_below (S := fun k => k = g) hb1)
  clear hb1
  go_wp2_with fail
  go_loopw [17] (fun x wr => ∃ (k : Nat) (l1 : List TB), i ≤ k ∧ k ≤ m ∧ x = .int .i64 k ∧ l1.Perm l ∧ TRow wr g c l1 ∧ Fr (fun k => k = g) w wr) (fun x _ => (intOf x).toNat)
  case atStart => exact ⟨m, l, hib, Nat.le_refl _, rfl, List.Perm.refl _, HT.out, HF.out⟩
  case round =>
    obtain ⟨k', l1, hak, hki, rfl, hp, ht, hf⟩ := hrel
    obtain ⟨w2, rfl⟩ : ∃ x, x = wr := ⟨_, rfl⟩
    have HP2 := Lib.hid hp
    have HT2 := Lib.hid ht
    have HF2 := Lib.hid hf
    have hlen := hp.length_eq
    clear hp ht hf
    by_cases hlt : i < k'
    · obtain ⟨k, rfl⟩ : ∃ k, k' = k + 1 := ⟨k' - 1, by omega⟩
      have hgt : (i : Int) < (k : Int) + 1 := by omega
      have hk1 : k + 1 < l1.length := by omega
      obtain ⟨x2, hx2⟩ : ∃ x, l1[k]? = some x := ⟨_, List.getElem?_eq_getElem (by omega)⟩
      obtain ⟨y2, hy2⟩ : ∃ y, l1[k + 1]? = some y := ⟨_, List.getElem?_eq_getElem hk1⟩
      have d0 : (0 : Int) ≤ (k : Int) := by omega
      have d1 : (k : Int) < (l.length : Int) := by omega
      have d2 : (0 : Int) ≤ (k : Int) + 1 := by omega
      have d3 : (k : Int) + 1 < (l.length : Int) := by omega
      have d4 : k < l.length := by omega
      have d5 : k + 1 < l.length := by omega
      have d6 : ¬ (k * 4 = (k + 1) * 4) := by omega
      have d7 : ¬ ((k + 1) * 4 = k * 4) := by omega
      have d8 : (l.length : Int) ≤ 1000 := by omega
      have d9 : IntKind.i64.wrap (k : Int) = (k : Int) := IntWalk.i64_in _ (by omega)
      obtain ⟨q0, q1, q2, q3⟩ := HT2.out.cell hx2
      obtain ⟨p0, p1, p2, p3⟩ := HT2.out.cell hy2
      have z0 := fun i => HT2.out.fz i
      have HX2 := Lib.hid hx2
      have HY2 := Lib.hid hy2
      have HLEN2 := Lib.hid hlen
      clear hx2 hy2 hlen
      go_upto_region 23 with fail
      go_region
      clear q0 q1 q2 q3 p0 p1 p2 p3 z0 d6 d7 d9
      all_goals
        go_wp2_with fail
        go_roundw
        case rel => exact ⟨k, exch l1 (k + 1) k, by omega, by omega, by go_num, (exch_perm _ _ _).trans HP2.out, (HT2.out.exch HY2.out HX2.out).drew, ((HF2.out.trans (put4_fr _ _ _ _) (fun b hb => .inl hb)).trans (put4_fr _ _ _ _) (fun b hb => .inl hb)).drew⟩
        case measure => simp [intOf]
    · have hlt2 : ¬ ((i : Int) < (k' : Int)) := by omega
      go_wp2_with fail
      refine bodyPost_ret (results_none rfl _ _ _) rfl ?_
      exact ⟨rfl, l1, HP2.out, HT2.out, HF2.out⟩
end Go.Proofs.YtlbbbafehhdpnaaGreatDoor
