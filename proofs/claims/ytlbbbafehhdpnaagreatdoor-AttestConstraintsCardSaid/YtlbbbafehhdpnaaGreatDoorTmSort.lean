/- Contracts: the comparison of two terms, the exchange of two terms, insertion. -/
import Derived.Test.YtlbbbafehhdpnaaGreatDoorLinMath
import Derived.Deep.DeepCutAuto
import Derived.Deep.RegionHeld3
import Derived.Deep.CutBlock
import Derived.RegionTactic
import Derived.BigRegion
import Derived.BigQuiet
import Derived.IntWalk
import Derived.Deep.QuietTactic
import Derived.Outline
namespace Go.Proofs.YtlbbbafehhdpnaaGreatDoor
open Go.RowKit
set_option linter.unusedVariables false
set_option linter.unusedSimpArgs false

def cmpT (a b : TB) : Int := if a.2.1 < b.2.1 then -1 else if b.2.1 < a.2.1 then 1 else 0
set_option maxRecDepth 100000 in
theorem cmp_term (a b : TB) (w : World) :
    Calls Tryz.prog 38 #[tmV a, tmV b] w fun e w' => e = .returned (.int .i64 (cmpT a b)) ∧ Below w.heap.size w w' := by
  obtain ⟨ba, va, qa⟩ := a
  obtain ⟨bb, vb, qb⟩ := b
  unfold tmV cmpT
  simp only
  have hb : Below w.heap.size w ((w.alloc (.cells #[.int .i64 va, .bool (ratNeg qa), .slice ba.A ba.n ba.c, .slice ba.A2 ba.n2 ba.c2] 70)).alloc (.cells #[.int .i64 vb, .bool (ratNeg qb), .slice bb.A bb.n bb.c, .slice bb.A2 bb.n2 bb.c2] 70)) := ((Below.refl _ _).alloc (Nat.le_refl _) _).alloc (by simp) _
  have HB := Lib.hid hb
  clear hb
  by_cases h1 : va < vb
  · rw [if_pos h1]
    have h2 : ¬ (vb < va) := by omega
    go_enter Tryz.func38, Tryz.ntmps38
    go_wp2_with fail
    go_ret
    exact ⟨rfl, HB.out⟩
  · rw [if_neg h1]
    by_cases h2 : vb < va
    · rw [if_pos h2]
      go_enter Tryz.func38, Tryz.ntmps38
      go_wp2_with fail
      go_ret
      exact ⟨rfl, HB.out⟩
    · rw [if_neg h2]
      go_enter Tryz.func38, Tryz.ntmps38
      go_wp2_with fail
      go_ret
      exact ⟨rfl, HB.out⟩
set_option maxRecDepth 100000 in
set_option maxHeartbeats 4000000 in
theorem ins_any (l : List TB) (g c a b : Nat) (w : World) (h : TRow w g c l) (hab : a ≤ b) (hb : b ≤ l.length) (hbnd : l.length ≤ 1000) :
    Calls Tryz.prog 70 #[.slice (some ⟨g, 0, none⟩) l.length c, .int .i64 (a : Int), .int .i64 (b : Int), .func (.func 38) #[] #[]] w fun e w' => e = .returned (.tuple #[]) ∧ ∃ l', l'.Perm l ∧ TRow w' g c l' ∧ Fr (fun k => k = g) w w' := by
  have H := Lib.hid h
  clear h
  go_enter Tryz.func70, Tryz.ntmps70
  go_wp2_with fail
  go_loopw [8] (fun x wr => ∃ (i : Nat) (l1 : List TB), a ≤ i ∧ (i ≤ b ∨ i ≤ a + 1) ∧ x = .int .i64 i ∧ l1.Perm l ∧ TRow wr g c l1 ∧ Fr (fun k => k = g) w wr) (fun x _ => b - (intOf x).toNat)
  case atStart => exact ⟨a + 1, l, by omega, by omega, by go_num, List.Perm.refl _, H.out, Fr.refl _ _⟩
  case round =>
    obtain ⟨i, l1, hai, hib, rfl, hp, ht, hf⟩ := hrel
    obtain ⟨w1, rfl⟩ : ∃ x, x = wr := ⟨_, rfl⟩
    have HP := Lib.hid hp
    have HT := Lib.hid ht
    have HF := Lib.hid hf
    have hlen := hp.length_eq
    have HLEN := Lib.hid hlen
    clear hp ht hf hlen
    by_cases hlt : i < b
    · go_wp2_with fail
      go_loopw [9] (fun y wr => ∃ (j : Nat) (l2 : List TB), a ≤ j ∧ j ≤ i ∧ y = .int .i64 j ∧ l2.Perm l ∧ TRow wr g c l2 ∧ Fr (fun k => k = g) w wr) (fun y _ => (intOf y).toNat)
      case atStart => exact ⟨i, l1, by omega, by omega, rfl, HP.out, HT.out, HF.out⟩
      case round =>
        obtain ⟨j, l2, haj, hji, rfl, hp, ht, hf⟩ := hrel
        obtain ⟨w2, rfl⟩ : ∃ x, x = wr := ⟨_, rfl⟩
        have HP2 := Lib.hid hp
        have HT2 := Lib.hid ht
        have HF2 := Lib.hid hf
        have hlen := hp.length_eq
        have HLEN2 := Lib.hid hlen
        have hle : l.length = l.length := rfl
        clear hp ht hf hle
        by_cases hja : j = a
        · subst hja
          have h4 : decide ((j : Int) > (j : Int)) = false := by simp
          go_upto_region 4 with fail
          go_quiet (fail)
          go_wp2_with fail
          go_roundw
          case rel => exact ⟨i + 1, l2, by omega, by omega, by go_num, HP2.out, HT2.out.drewN _, HF2.out.drewN _⟩
          case measure => simp [intOf]; omega
        · obtain ⟨k, rfl⟩ : ∃ k, j = k + 1 := ⟨j - 1, by omega⟩
          have hk1 : k + 1 < l2.length := by rw [HLEN2.out]; omega
          obtain ⟨x, hx⟩ : ∃ x, l2[k]? = some x := ⟨_, List.getElem?_eq_getElem (by omega)⟩
          obtain ⟨y, hy⟩ : ∃ y, l2[k + 1]? = some y := ⟨_, List.getElem?_eq_getElem hk1⟩
          have hcs : ∀ W', Below w2.heap.size w2 W' → _ := fun W' h => And.intro ((HT2.out.below h).cell hx) ((HT2.out.below h).cell hy)
          have h4 : decide ((a : Int) < (k : Int) + 1) = true := by simp; omega
          have h5 : (a : Int) < (k : Int) + 1 := by omega
          have b5 : (0 : Int) ≤ (k : Int) + 1 := by omega
          have b0 : (0 : Int) ≤ (k : Int) := by omega
          have b1 : (k : Int) < (l.length : Int) := by rw [← HLEN2.out]; omega
          have b2 : ((k : Int) + 1) < (l.length : Int) := by rw [← HLEN2.out]; omega
          have b3 : (l.length : Int) ≤ 1000 := by omega
          have b6 : k < l.length := by omega
          have b7 : k + 1 < l.length := by omega
          have b8 : IntKind.i64.wrap (k : Int) = (k : Int) := IntWalk.i64_in _ (by omega)
          have hcm := fun W => cmp_term y x W
          obtain ⟨z, hz⟩ : ∃ z, z = cmpT y x := ⟨_, rfl⟩
          rw [← hz] at hcm
          unfold tmV at hcm
          have HCS := Lib.hid hcs
          have HCM := Lib.hid hcm
          have HX := Lib.hid hx
          have HY := Lib.hid hy
          clear hcs hcm hz hx hy
          go_upto_region 4 with fail
          go_cut [34] (fun v wx => v = .bool (decide (z < 0)) ∧ Below w2.heap.size w2 wx)
          case first =>
            go_region_held3 (fun W' => (W'.cell? ⟨g, k * 4, none⟩ = some (.int .i64 x.2.1) ∧ W'.cell? ⟨g, k * 4 + 1, none⟩ = some (.bool (ratNeg x.2.2)) ∧ W'.cell? ⟨g, k * 4 + 2, none⟩ = some (.slice x.1.A x.1.n x.1.c) ∧ W'.cell? ⟨g, k * 4 + 3, none⟩ = some (.slice x.1.A2 x.1.n2 x.1.c2)) ∧ W'.cell? ⟨g, (k + 1) * 4, none⟩ = some (.int .i64 y.2.1) ∧ W'.cell? ⟨g, (k + 1) * 4 + 1, none⟩ = some (.bool (ratNeg y.2.2)) ∧ W'.cell? ⟨g, (k + 1) * 4 + 2, none⟩ = some (.slice y.1.A y.1.n y.1.c) ∧ W'.cell? ⟨g, (k + 1) * 4 + 3, none⟩ = some (.slice y.1.A2 y.1.n2 y.1.c2)) ((refine HCS.out _ ?_; first | with_reducible exact c1 | with_reducible exact below_drew2 (Below.refl _ _))) ((go_at_call 38; refine (HCM.out _).mono ?_; rintro e w5 ⟨rfl, hb5⟩; have c1 : Below w2.heap.size w2 w5 := (below_drew2 (Below.refl _ _)).trans (hb5.mono (Nat.le_refl _)); clear hb5))
            all_goals
              go_wp2_with fail
              go_meet
              exact ⟨rfl, c1⟩
          case rest =>
          obtain ⟨rfl, hb3⟩ := hcut
          obtain ⟨w3, rfl⟩ : ∃ x, x = wc := ⟨_, rfl⟩
          have HT3 := Lib.hid (HT2.out.below hb3)
          have HF3 := Lib.hid (HF2.out.trans (Fr.of_below (S := fun k => k = g) hb3) (fun b hb => .inl hb))
          clear hb3
          by_cases hz : z < 0
          · rw [decide_eq_true hz]
            clear hz
            obtain ⟨q0, q1, q2, q3⟩ := HT3.out.cell HX.out
            obtain ⟨p0, p1, p2, p3⟩ := HT3.out.cell HY.out
            have z0 := fun i => HT3.out.fz i
            have e0 : ¬ ((k + 1) * 4 = k * 4) := by omega
            go_upto_region 6 with fail
            go_region
            clear q0 q1 q2 q3 p0 p1 p2 p3 z0 e0 b8
            all_goals
              go_wp2_with fail
              go_roundw
              case rel => exact ⟨k, exch l2 (k + 1) k, by omega, by omega, by go_num, (exch_perm _ _ _).trans HP2.out, (HT3.out.exch HY.out HX.out).drew, ((HF3.out.trans (put4_fr _ _ _ _) (fun b hb => .inl hb)).trans (put4_fr _ _ _ _) (fun b hb => .inl hb)).drew⟩
              case measure => simp [intOf]
          · rw [decide_eq_false hz]
            go_wp2_with fail
            go_roundw
            case rel => exact ⟨i + 1, l2, by omega, by omega, by go_num, HP2.out, HT3.out, HF3.out⟩
            case measure => simp [intOf]; omega
    · have hlt2 : ¬ ((i : Int) < (b : Int)) := by omega
      go_wp2_with fail
      go_end0
      exact ⟨rfl, l1, HP.out, HT.out, HF.out⟩
end Go.Proofs.YtlbbbafehhdpnaaGreatDoor

namespace Go.Proofs.YtlbbbafehhdpnaaGreatDoor
open Go.RowKit
set_option linter.unusedVariables false
set_option linter.unusedSimpArgs false

set_option maxRecDepth 100000 in
set_option maxHeartbeats 4000000 in
theorem swap_any (l : List TB) (g c a b n : Nat) (w : World) (h : TRow w g c l) (hab : a < b) (hb : b + n ≤ l.length) (hbnd : l.length ≤ 1000) (fv : Value) :
    Calls Tryz.prog 97 #[.slice (some ⟨g, 0, none⟩) l.length c, .int .i64 (a : Int), .int .i64 (b : Int), .int .i64 (n : Int), fv] w fun e w' => e = .returned (.tuple #[]) ∧ ∃ l', l'.Perm l ∧ TRow w' g c l' ∧ Fr (fun k => k = g) w w' := by
  have H := Lib.hid h
  clear h
  go_enter Tryz.func97, Tryz.ntmps97
  go_wp2_with fail
  go_loopw [10] (fun x wr => ∃ (i : Nat) (l1 : List TB), i ≤ n ∧ x = .int .i64 i ∧ l1.Perm l ∧ TRow wr g c l1 ∧ Fr (fun k => k = g) w wr) (fun x _ => n - (intOf x).toNat)
  case atStart => exact ⟨0, l, by omega, by first | rfl | go_num, List.Perm.refl _, H.out, Fr.refl _ _⟩
  case round =>
    obtain ⟨i, l1, hin, rfl, hp, ht, hf⟩ := hrel
    obtain ⟨w1, rfl⟩ : ∃ x, x = wr := ⟨_, rfl⟩
    have HP := Lib.hid hp
    have HT := Lib.hid ht
    have HF := Lib.hid hf
    have hlen := hp.length_eq
    by_cases hlt : i < n
    · obtain ⟨x, hx⟩ : ∃ x, l1[a + i]? = some x := ⟨_, List.getElem?_eq_getElem (by omega)⟩
      obtain ⟨y, hy⟩ : ∃ y, l1[b + i]? = some y := ⟨_, List.getElem?_eq_getElem (by omega)⟩
      obtain ⟨p, hpe⟩ : ∃ p, p = a + i := ⟨_, rfl⟩
      obtain ⟨q, hqe⟩ : ∃ q, q = b + i := ⟨_, rfl⟩
      rw [← hpe] at hx
      rw [← hqe] at hy
      have b0 : (0 : Int) ≤ (p : Int) := by omega
      have b1 : (p : Int) < (l.length : Int) := by omega
      have b2 : (0 : Int) ≤ (q : Int) := by omega
      have b3 : (q : Int) < (l.length : Int) := by omega
      have b4 : p < l.length := by omega
      have b5 : q < l.length := by omega
      have b6 : ¬ (p * 4 = q * 4) := by omega
      have b7 : ¬ (q * 4 = p * 4) := by omega
      have b8 : (a : Int) + (i : Int) = (p : Int) := by omega
      have b9 : (b : Int) + (i : Int) = (q : Int) := by omega
      have b10 : (l.length : Int) ≤ 1000 := by omega
      have b11 : IntKind.i64.wrap (p : Int) = (p : Int) := IntWalk.i64_in _ (by omega)
      have b12 : IntKind.i64.wrap (q : Int) = (q : Int) := IntWalk.i64_in _ (by omega)
      obtain ⟨q0, q1, q2, q3⟩ := HT.out.cell hx
      obtain ⟨p0, p1, p2, p3⟩ := HT.out.cell hy
      have z0 := fun i => HT.out.fz i
      have HX := Lib.hid hx
      have HY := Lib.hid hy
      have HLEN := Lib.hid hlen
      clear hp ht hf hx hy hlen hpe hqe
      go_upto_region 3 with fail
      go_region
      clear q0 q1 q2 q3 p0 p1 p2 p3 z0 b6 b7 b8 b9 b11 b12
      all_goals
        go_wp2_with fail
        go_roundw
        case rel => exact ⟨i + 1, exch l1 p q, by omega, by go_num, (exch_perm _ _ _).trans HP.out, (HT.out.exch HX.out HY.out).drew, ((HF.out.trans (put4_fr _ _ _ _) (fun b hb => .inl hb)).trans (put4_fr _ _ _ _) (fun b hb => .inl hb)).drew⟩
        case measure => simp [intOf]; omega
    · clear hp ht hf hlen
      have hlt2 : ¬ ((i : Int) < (n : Int)) := by omega
      go_wp2_with fail
      go_end0
      exact ⟨rfl, l1, HP.out, HT.out, HF.out⟩
set_option maxRecDepth 100000 in
set_option maxHeartbeats 4000000 in
theorem rot_any (l : List TB) (g c a m b : Nat) (w : World) (h : TRow w g c l) (ham : a < m) (hmb : m < b) (hb : b ≤ l.length) (hbnd : l.length ≤ 1000) (fv : Value) :
    Calls Tryz.prog 82 #[.slice (some ⟨g, 0, none⟩) l.length c, .int .i64 (a : Int), .int .i64 (m : Int), .int .i64 (b : Int), fv] w fun e w' => e = .returned (.tuple #[]) ∧ ∃ l', l'.Perm l ∧ TRow w' g c l' ∧ Fr (fun k => k = g) w w' := by
  have H := Lib.hid h
  obtain ⟨i0, hi0⟩ : ∃ i0, i0 = m - a := ⟨_, rfl⟩
  obtain ⟨j0, hj0⟩ : ∃ j0, j0 = b - m := ⟨_, rfl⟩
  have e0 : (m : Int) - (a : Int) = (i0 : Int) := by omega
  have e1 : (b : Int) - (m : Int) = (j0 : Int) := by omega
  have HI0 := Lib.hid hi0
  have HJ0 := Lib.hid hj0
  clear h hi0 hj0
  go_enter Tryz.func82, Tryz.ntmps82
  go_wp2_with fail
  clear e0 e1
  go_loopw [10, 11] (fun x y wr => ∃ (i j : Nat) (l1 : List TB), 1 ≤ i ∧ 1 ≤ j ∧ i ≤ i0 ∧ j ≤ j0 ∧ x = .int .i64 i ∧ y = .int .i64 j ∧ l1.Perm l ∧ TRow wr g c l1 ∧ Fr (fun k => k = g) w wr) (fun x y _ => (intOf x).toNat + (intOf y).toNat)
  case atStart => exact ⟨i0, j0, l, by have := HI0.out; omega, by have := HJ0.out; omega, Nat.le_refl _, Nat.le_refl _, rfl, rfl, List.Perm.refl _, H.out, Fr.refl _ _⟩
  case round =>
    obtain ⟨i, j, l1, hi1, hj1, hii, hjj, rfl, rfl, hp, ht, hf⟩ := hrel
    obtain ⟨w1, rfl⟩ : ∃ x, x = wr := ⟨_, rfl⟩
    have hlen := hp.length_eq
    have hI0 := HI0.out
    have hJ0 := HJ0.out
    obtain ⟨p, hpe⟩ : ∃ p, p = m - i := ⟨_, rfl⟩
    have ep : (m : Int) - (i : Int) = (p : Int) := by omega
    have HP := Lib.hid hp
    have HF := Lib.hid hf
    by_cases hij : i = j
    · subst hij
      have hs := fun W (hw : TRow W g c l1) => swap_any l1 g c p m i W hw (by omega) (by omega) (by omega) fv
      rw [hlen] at hs
      have hs1 := hs _ ht
      have HS := Lib.hid hs1
      clear hp ht hf hlen hI0 hJ0 hpe hs hs1
      have h0 : ((i : Int) != (i : Int)) = false := by simp
      go_wp2_with (go_at_call 97; refine HS.out.mono ?_; rintro e w2 ⟨rfl, l2, hp2, ht2, hf2⟩)
      go_end0
      exact ⟨rfl, l2, hp2.trans HP.out, ht2, HF.out.trans hf2 (fun b hb => .inl hb)⟩
    · have h0 : ((i : Int) != (j : Int)) = true := by rw [bne_iff_ne]; omega
      by_cases hgt : j < i
      · have hs := fun W (hw : TRow W g c l1) => swap_any l1 g c p m j W hw (by omega) (by omega) (by omega) fv
        rw [hlen] at hs
        have hs1 := hs _ ht
        obtain ⟨d, hd⟩ : ∃ d, d = i - j := ⟨_, rfl⟩
        have ed : (i : Int) - (j : Int) = (d : Int) := by omega
        have hg2 : (j : Int) < (i : Int) := by omega
        have HS := Lib.hid hs1
        have HD := Lib.hid (show 1 ≤ d ∧ d < i ∧ d ≤ i0 by omega)
        clear hp ht hf hlen hI0 hJ0 hpe hs hs1 hd
        go_wp2_with (go_at_call 97; refine HS.out.mono ?_; rintro e w2 ⟨rfl, l2, hp2, ht2, hf2⟩)
        go_roundw
        case rel => exact ⟨d, j, l2, HD.out.1, hj1, HD.out.2.2, hjj, rfl, rfl, hp2.trans HP.out, ht2, HF.out.trans hf2 (fun b hb => .inl hb)⟩
        case measure => have := HD.out; simp [intOf]; omega
      · obtain ⟨q, hqe⟩ : ∃ q, q = m + j - i := ⟨_, rfl⟩
        have hs := fun W (hw : TRow W g c l1) => swap_any l1 g c p q i W hw (by omega) (by omega) (by omega) fv
        rw [hlen] at hs
        have hs1 := hs _ ht
        obtain ⟨d, hd⟩ : ∃ d, d = j - i := ⟨_, rfl⟩
        have ed : (j : Int) - (i : Int) = (d : Int) := by omega
        have eq1 : (m : Int) + (j : Int) - (i : Int) = (q : Int) := by omega
        have hg2 : ¬ ((j : Int) < (i : Int)) := by omega
        have hbm : (m : Int) + (j : Int) ≤ 1000 := by omega
        have HS := Lib.hid hs1
        have HD := Lib.hid (show 1 ≤ d ∧ d < j ∧ d ≤ j0 by omega)
        clear hp ht hf hlen hI0 hJ0 hpe hs hs1 hd hqe
        go_wp2_with (go_at_call 97; refine HS.out.mono ?_; rintro e w2 ⟨rfl, l2, hp2, ht2, hf2⟩)
        go_roundw
        case rel => exact ⟨i, d, l2, hi1, HD.out.1, hii, HD.out.2.2, rfl, rfl, hp2.trans HP.out, ht2, HF.out.trans hf2 (fun b hb => .inl hb)⟩
        case measure => have := HD.out; simp [intOf]; omega
end Go.Proofs.YtlbbbafehhdpnaaGreatDoor
