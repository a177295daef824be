/- Contract: the merge of two neighbouring runs of terms in place: whatever the runs, what comes out is a rearrangement. -/
import Derived.Test.YtlbbbafehhdpnaaGreatDoorTmSym
namespace Go.Proofs.YtlbbbafehhdpnaaGreatDoor
open Go.RowKit
set_option linter.unusedVariables false
set_option linter.unusedSimpArgs false

def Mrg (g c : Nat) (l : List TB) (w w' : World) : Prop := ∃ l', l'.Perm l ∧ TRow w' g c l' ∧ Fr (fun k => k = g) w w'
theorem Mrg.len {g c : Nat} {l l' : List TB} (h : l'.Perm l) : l'.length = l.length := h.length_eq
set_option maxRecDepth 100000 in
set_option maxHeartbeats 4000000 in
theorem sym_any : ∀ (N : Nat) (l : List TB) (g c a m b : Nat) (w : World) (h : TRow w g c l) (hN : b - a ≤ N) (ham : a < m) (hmb : m < b) (hb : b ≤ l.length) (hbnd : l.length ≤ 1000),
    Calls Tryz.prog 71 #[.slice (some ⟨g, 0, none⟩) l.length c, .int .i64 (a : Int), .int .i64 (m : Int), .int .i64 (b : Int), .func (.func 38) #[] #[]] w fun e w' => e = .returned (.tuple #[]) ∧ ∃ l', l'.Perm l ∧ TRow w' g c l' ∧ Fr (fun k => k = g) w w' := by
  intro N
  induction N with
  | zero => intro l g c a m b w h hN ham hmb hb hbnd; omega
  | succ N ih =>
  intro l g c a m b w h hN ham hmb hb hbnd
  have IH := Lib.hid ih
  clear ih
  by_cases h1 : m = a + 1
  · exact sym_one l g c a m b w h h1 hmb hb hbnd
  by_cases h2 : b = m + 1
  · exact sym_two l g c a m b w h (by omega) h2 hb hbnd
  have H := Lib.hid h
  obtain ⟨d0, hd0⟩ : ∃ d0, d0 = m - a := ⟨_, rfl⟩
  obtain ⟨d1, hd1⟩ : ∃ d1, d1 = b - m := ⟨_, rfl⟩
  obtain ⟨mid, hmid⟩ : ∃ mid, mid = (a + b) / 2 := ⟨_, rfl⟩
  obtain ⟨n, hn⟩ : ∃ n, n = mid + m := ⟨_, rfl⟩
  have e1 : (m : Int) - (a : Int) = (d0 : Int) := by omega
  have e2 : ((d0 : Int) == 1) = false := by rw [beq_eq_false_iff_ne]; omega
  have e3 : (b : Int) - (m : Int) = (d1 : Int) := by omega
  have e4 : ((d1 : Int) == 1) = false := by rw [beq_eq_false_iff_ne]; omega
  have e5 : ((a : Int) + (b : Int)) / 2 = (mid : Int) := by omega
  have e6 : (mid : Int) + (m : Int) = (n : Int) := by omega
  have hm1 : a < mid := by omega
  have hm2 : mid < b := by omega
  have hm3 : a + b ≤ 2 * mid + 1 := by omega
  have hm4 : 2 * mid ≤ a + b := by omega
  have hab : (a : Int) + (b : Int) ≤ 2000 := by omega
  have hmm : (mid : Int) + (m : Int) ≤ 2000 := by omega
  clear h hd0 hd1 hmid
  obtain ⟨st, r0, hst, hr1, hr2, hr3, hcase⟩ : ∃ st r0 : Nat, a ≤ st ∧ st ≤ r0 ∧ r0 ≤ m ∧ n ≤ st + b ∧ ((mid < m ∧ st = n - b ∧ r0 = mid) ∨ (m ≤ mid ∧ st = a ∧ r0 = m)) := by
    by_cases hc : mid < m
    · exact ⟨n - b, mid, by omega, by omega, by omega, by omega, .inl ⟨hc, rfl, rfl⟩⟩
    · exact ⟨a, m, by omega, by omega, by omega, by omega, .inr ⟨by omega, rfl, rfl⟩⟩
  have hr4 : r0 ≤ mid := by omega
  have HN := Lib.hid hn
  clear hn
  go_enter Tryz.func71, Tryz.ntmps71
  go_upto_if 140 with fail
  clear e1 e2 e3 e4 e5 e6
  go_cut [20, 21] (fun x y wx => x = .int .i64 (st : Int) ∧ y = .int .i64 (r0 : Int) ∧ wx = w)
  case first => as_aux_lemma =>
    rcases hcase with ⟨hc, hs1, hs2⟩ | ⟨hc, hs1, hs2⟩
    · have hn := HN.out
      have q1 : (mid : Int) < (m : Int) := by omega
      have q2 : (n : Int) - (b : Int) = (st : Int) := by omega
      have HS := Lib.hid hs2
      clear hn hs1 hs2
      go_wp2_with fail
      go_meet
      exact ⟨rfl, by rw [HS.out], rfl⟩
    · have q1 : ¬ ((mid : Int) < (m : Int)) := by omega
      have HS := Lib.hid (And.intro hs1 hs2)
      clear hs1 hs2
      go_wp2_with fail
      go_meet
      exact ⟨by rw [HS.out.1], by rw [HS.out.2], rfl⟩
  case rest =>
  obtain ⟨rfl, rfl, hwc⟩ := hcut
  obtain rfl := hwc.symm
  clear hcase
  have hn1 : (n : Int) - 1 = ((n - 1 : Nat) : Int) := by have := HN.out; omega
  obtain ⟨p0, hp0⟩ : ∃ p0, p0 = n - 1 := ⟨_, rfl⟩
  rw [← hp0] at hn1
  have hp00 : p0 + 1 = n := by have := HN.out; omega
  clear hp0
  go_upto_block 8 with fail
  go_cut [20, 21] (fun x _ wx => ∃ s : Nat, st ≤ s ∧ s ≤ r0 ∧ x = .int .i64 s ∧ Below w.heap.size w wx)
  case first => as_aux_lemma =>
    clear hn1
    go_wp2_with fail
    go_loopw [20, 21] (fun x y wr => ∃ (i j : Nat), st ≤ i ∧ i ≤ j ∧ j ≤ r0 ∧ x = .int .i64 i ∧ y = .int .i64 j ∧ Below w.heap.size w wr) (fun x y _ => (intOf y).toNat - (intOf x).toNat)
    case atStart => exact ⟨st, r0, by omega, by omega, by omega, rfl, rfl, Below.refl _ _⟩
    case round =>
      obtain ⟨i, j, hmi, hij, hjb, rfl, rfl, hb1⟩ := hrel
      obtain ⟨w1, rfl⟩ : ∃ x, x = wr := ⟨_, rfl⟩
      have HB1 := Lib.hid hb1
      have HT := Lib.hid (H.out.below hb1)
      clear hb1
      by_cases hlt : i < j
      · obtain ⟨p, hp⟩ : ∃ p, p = (i + j) / 2 := ⟨_, rfl⟩
        have hp1 : i ≤ p := by omega
        have hp2 : p < j := by omega
        have hij2 : ((i : Int) + (j : Int)) / 2 = (p : Int) := by omega
        obtain ⟨q, hq⟩ : ∃ q, q = p0 - p := ⟨_, rfl⟩
        have hq2 : (p0 : Int) - (p : Int) = (q : Int) := by have := HN.out; omega
        have hq3 : q < l.length := by have := HN.out; omega
        obtain ⟨x, hx⟩ : ∃ x, l[q]? = some x := ⟨_, List.getElem?_eq_getElem (by omega)⟩
        obtain ⟨y, hy⟩ : ∃ y, l[p]? = some y := ⟨_, List.getElem?_eq_getElem (by omega)⟩
        have hl1000 : (l.length : Int) ≤ 1000 := by omega
        clear hp hq
        have bp0 : (0 : Int) ≤ (p : Int) := by omega
        have bp1 : (p : Int) < (l.length : Int) := by omega
        have bp2 : p < l.length := by omega
        have bp3 : IntKind.i64.wrap (p : Int) = (p : Int) := IntWalk.i64_in _ (by omega)
        have bq0 : (0 : Int) ≤ (q : Int) := by omega
        have bq1 : (q : Int) < (l.length : Int) := by omega
        have bq2 : q < l.length := by omega
        have bq3 : IntKind.i64.wrap (q : Int) = (q : Int) := IntWalk.i64_in _ (by omega)
        have hcs : ∀ W', Below w1.heap.size w1 W' → _ := fun W' h => And.intro ((HT.out.below h).cell hx) ((HT.out.below h).cell hy)
        have hcm := fun W => cmp_term x y W
        obtain ⟨z, hz⟩ : ∃ z, z = cmpT x y := ⟨_, rfl⟩
        rw [← hz] at hcm
        unfold tmV at hcm
        have HCS := Lib.hid hcs
        have HCM := Lib.hid hcm
        have HX := Lib.hid hx
        have HY := Lib.hid hy
        clear hcs hcm hz hx hy
        go_upto_region 35 with fail
        go_cut [171] (fun v wx => v = .bool (!decide (z < 0)) ∧ Below w1.heap.size w1 wx)
        case first => as_aux_lemma =>
          go_region_held3 (fun W' => (W'.cell? ⟨g, q * 4, none⟩ = some (.int .i64 x.2.1) ∧ W'.cell? ⟨g, q * 4 + 1, none⟩ = some (.bool (ratNeg x.2.2)) ∧ W'.cell? ⟨g, q * 4 + 2, none⟩ = some (.slice x.1.A x.1.n x.1.c) ∧ W'.cell? ⟨g, q * 4 + 3, none⟩ = some (.slice x.1.A2 x.1.n2 x.1.c2)) ∧ W'.cell? ⟨g, p * 4, none⟩ = some (.int .i64 y.2.1) ∧ W'.cell? ⟨g, p * 4 + 1, none⟩ = some (.bool (ratNeg y.2.2)) ∧ W'.cell? ⟨g, p * 4 + 2, none⟩ = some (.slice y.1.A y.1.n y.1.c) ∧ W'.cell? ⟨g, p * 4 + 3, none⟩ = some (.slice y.1.A2 y.1.n2 y.1.c2)) ((refine HCS.out _ ?_; first | with_reducible exact c1 | with_reducible exact below_drew2 (Below.refl _ _))) ((go_at_call 38; refine (HCM.out _).mono ?_; rintro e w5 ⟨rfl, hb5⟩; have c1 : Below w1.heap.size w1 w5 := (below_drew2 (Below.refl _ _)).trans (hb5.mono (Nat.le_refl _)); clear hb5))
          all_goals
            go_wp2_with fail
            go_meet
            exact ⟨rfl, c1⟩
        case rest =>
        obtain ⟨rfl, hb3⟩ := hcut
        obtain ⟨w3, rfl⟩ : ∃ x, x = wc := ⟨_, rfl⟩
        by_cases hz : z < 0
        · rw [decide_eq_true hz]
          clear hz bp3 bq3 hij2 hq2
          go_wp2_with fail
          go_roundw
          case rel => exact ⟨i, p, by omega, by omega, by omega, rfl, rfl, HB1.out.trans (hb3.mono HB1.out.size)⟩
          case measure => simp [intOf]; omega
        · rw [decide_eq_false hz]
          clear hz bp3 bq3 hij2 hq2
          go_wp2_with fail
          go_roundw
          case rel => exact ⟨p + 1, j, by omega, by omega, hjb, by go_num, rfl, HB1.out.trans (hb3.mono HB1.out.size)⟩
          case measure => simp [intOf]; omega
      · have hlt2 : ¬ ((i : Int) < (j : Int)) := by omega
        go_wp2_with fail
        go_meet
        exact ⟨i, hmi, by omega, rfl, HB1.out⟩
  case rest =>
  obtain ⟨s, hs1, hs2, rfl, hb1⟩ := hcut
  obtain ⟨w1, rfl⟩ : ∃ x, x = wc := ⟨_, rfl⟩
  have hM0 : Mrg g c l w w1 := ⟨l, List.Perm.refl _, H.out.below hb1, Fr.of_below hb1⟩
  have M0 := Lib.hid hM0
  obtain ⟨en, hen⟩ : ∃ en, en = n - s := ⟨_, rfl⟩
  have hen1 : (n : Int) - (s : Int) = (en : Int) := by have := HN.out; omega
  have hen2 : en ≤ b := by have := HN.out; omega
  have hen3 : mid ≤ en := by have := HN.out; omega
  clear hb1 hM0 hen
  go_upto_region 39 with fail
  clear hen1 hn1
  go_upto_region 39 with fail
  go_cut [185] (fun v wx => v = .bool (decide (s < m ∧ m < en)) ∧ wx = w1)
  case first => as_aux_lemma =>
    by_cases hq1 : s < m
    · have q1 : (s : Int) < (m : Int) := by omega
      by_cases hq2 : m < en
      · have q2 : (m : Int) < (en : Int) := by omega
        have HQ := Lib.hid (decide_eq_true (And.intro hq1 hq2))
        go_wp2_with fail
        go_meet
        exact ⟨by rw [HQ.out], rfl⟩
      · have q2 : ¬ ((m : Int) < (en : Int)) := by omega
        have HQ := Lib.hid (decide_eq_false (p := s < m ∧ m < en) (fun h => hq2 h.2))
        go_wp2_with fail
        go_meet
        exact ⟨by rw [HQ.out], rfl⟩
    · have q1 : ¬ ((s : Int) < (m : Int)) := by omega
      have HQ := Lib.hid (decide_eq_false (p := s < m ∧ m < en) (fun h => hq1 h.1))
      go_wp2_with fail
      go_meet
      exact ⟨by rw [HQ.out], rfl⟩
  case rest =>
  obtain ⟨rfl, hwv⟩ := hcut
  obtain rfl := hwv.symm
  go_upto_if 185 with fail
  go_cut [] (fun wx => Mrg g c l w wx)
  case first => as_aux_lemma =>
    obtain ⟨l2, hp2, ht2, hf2⟩ := M0.out
    have hl2 := hp2.length_eq
    by_cases hq : s < m ∧ m < en
    · rw [decide_eq_true hq]
      have hcall := rot_any l2 g c s m en w1 ht2 hq.1 hq.2 (by omega) (by omega) (.func (.func 38) #[] #[])
      rw [hl2] at hcall
      have HC := Lib.hid hcall
      have HP2 := Lib.hid hp2
      have HF2 := Lib.hid hf2
      clear hcall hp2 ht2 hf2 hl2 hq
      go_wp2_with (go_at_call 82; refine HC.out.mono ?_; rintro e w4 ⟨rfl, l3, hp3, ht3, hf3⟩)
      go_meet
      exact ⟨l3, hp3.trans HP2.out, ht3, HF2.out.trans hf3 (fun b hb => .inl hb)⟩
    · rw [decide_eq_false hq]
      have HP2 := Lib.hid hp2
      have HT2 := Lib.hid ht2
      have HF2 := Lib.hid hf2
      clear hp2 ht2 hf2 hl2 hq
      go_wp2_with fail
      go_meet
      exact ⟨l2, HP2.out, HT2.out, HF2.out⟩
  case rest =>
  have M1 := Lib.hid hcut
  clear hcut M0
  obtain ⟨w4, rfl⟩ : ∃ x, x = wc := ⟨_, rfl⟩
  go_upto_region 41 with fail
  go_cut [199] (fun v wx => v = .bool (decide (a < s ∧ s < mid)) ∧ wx = w4)
  case first => as_aux_lemma =>
    by_cases hq1 : a < s
    · have q1 : (a : Int) < (s : Int) := by omega
      by_cases hq2 : s < mid
      · have q2 : (s : Int) < (mid : Int) := by omega
        have HQ := Lib.hid (decide_eq_true (And.intro hq1 hq2))
        go_wp2_with fail
        go_meet
        exact ⟨by rw [HQ.out], rfl⟩
      · have q2 : ¬ ((s : Int) < (mid : Int)) := by omega
        have HQ := Lib.hid (decide_eq_false (p := a < s ∧ s < mid) (fun h => hq2 h.2))
        go_wp2_with fail
        go_meet
        exact ⟨by rw [HQ.out], rfl⟩
    · have q1 : ¬ ((a : Int) < (s : Int)) := by omega
      have HQ := Lib.hid (decide_eq_false (p := a < s ∧ s < mid) (fun h => hq1 h.1))
      go_wp2_with fail
      go_meet
      exact ⟨by rw [HQ.out], rfl⟩
  case rest =>
  obtain ⟨rfl, hwv⟩ := hcut
  obtain rfl := hwv.symm
  go_upto_if 199 with fail
  go_cut [] (fun wx => Mrg g c l w wx)
  case first => as_aux_lemma =>
    obtain ⟨l2, hp2, ht2, hf2⟩ := M1.out
    have hl2 := hp2.length_eq
    by_cases hq : a < s ∧ s < mid
    · rw [decide_eq_true hq]
      have hcall := IH.out l2 g c a s mid w4 ht2 (by omega) hq.1 hq.2 (by omega) (by omega)
      rw [hl2] at hcall
      have HC := Lib.hid hcall
      have HP2 := Lib.hid hp2
      have HF2 := Lib.hid hf2
      clear hcall hp2 ht2 hf2 hl2 hq
      go_wp2_with (go_at_call 71; refine HC.out.mono ?_; rintro e w4 ⟨rfl, l3, hp3, ht3, hf3⟩)
      go_meet
      exact ⟨l3, hp3.trans HP2.out, ht3, HF2.out.trans hf3 (fun b hb => .inl hb)⟩
    · rw [decide_eq_false hq]
      have HP2 := Lib.hid hp2
      have HT2 := Lib.hid ht2
      have HF2 := Lib.hid hf2
      clear hp2 ht2 hf2 hl2 hq
      go_wp2_with fail
      go_meet
      exact ⟨l2, HP2.out, HT2.out, HF2.out⟩
  case rest =>
  have M2 := Lib.hid hcut
  clear hcut M1
  obtain ⟨w5, rfl⟩ : ∃ x, x = wc := ⟨_, rfl⟩
  go_upto_region 43 with fail
  go_cut [213] (fun v wx => v = .bool (decide (mid < en ∧ en < b)) ∧ wx = w5)
  case first => as_aux_lemma =>
    by_cases hq1 : mid < en
    · have q1 : (mid : Int) < (en : Int) := by omega
      by_cases hq2 : en < b
      · have q2 : (en : Int) < (b : Int) := by omega
        have HQ := Lib.hid (decide_eq_true (And.intro hq1 hq2))
        go_wp2_with fail
        go_meet
        exact ⟨by rw [HQ.out], rfl⟩
      · have q2 : ¬ ((en : Int) < (b : Int)) := by omega
        have HQ := Lib.hid (decide_eq_false (p := mid < en ∧ en < b) (fun h => hq2 h.2))
        go_wp2_with fail
        go_meet
        exact ⟨by rw [HQ.out], rfl⟩
    · have q1 : ¬ ((mid : Int) < (en : Int)) := by omega
      have HQ := Lib.hid (decide_eq_false (p := mid < en ∧ en < b) (fun h => hq1 h.1))
      go_wp2_with fail
      go_meet
      exact ⟨by rw [HQ.out], rfl⟩
  case rest =>
  obtain ⟨rfl, hwv⟩ := hcut
  obtain rfl := hwv.symm
  go_upto_if 213 with fail
  obtain ⟨l2, hp2, ht2, hf2⟩ := M2.out
  have hl2 := hp2.length_eq
  by_cases hq : mid < en ∧ en < b
  · rw [decide_eq_true hq]
    have hcall := IH.out l2 g c mid en b w5 ht2 (by omega) hq.1 hq.2 (by omega) (by omega)
    rw [hl2] at hcall
    have HC := Lib.hid hcall
    have HP2 := Lib.hid hp2
    have HF2 := Lib.hid hf2
    clear hcall hp2 ht2 hf2 hl2 hq
    go_wp2_with (go_at_call 71; refine HC.out.mono ?_; rintro e w4 ⟨rfl, l3, hp3, ht3, hf3⟩)
    go_end0
    exact ⟨rfl, l3, hp3.trans HP2.out, ht3, HF2.out.trans hf3 (fun b hb => .inl hb)⟩
  · rw [decide_eq_false hq]
    have HP2 := Lib.hid hp2
    have HT2 := Lib.hid ht2
    have HF2 := Lib.hid hf2
    clear hp2 ht2 hf2 hl2 hq
    go_wp2_with fail
    go_end0
    exact ⟨rfl, l2, HP2.out, HT2.out, HF2.out⟩
end Go.Proofs.YtlbbbafehhdpnaaGreatDoor

namespace Go.Proofs.YtlbbbafehhdpnaaGreatDoor
open Go.RowKit
set_option linter.unusedVariables false
set_option linter.unusedSimpArgs false

theorem Mrg.mk {g c : Nat} {l l1 : List TB} {w w1 : World} (hp : l1.Perm l) (ht : TRow w1 g c l1) (hf : Fr (fun k => k = g) w w1) : Mrg g c l w w1 := ⟨l1, hp, ht, hf⟩
set_option maxRecDepth 100000 in
set_option maxHeartbeats 4000000 in
theorem stab_any (l : List TB) (g c : Nat) (w : World) (h : TRow w g c l) (hbnd : l.length ≤ 1000) :
    Calls Tryz.prog 53 #[.slice (some ⟨g, 0, none⟩) l.length c, .int .i64 (l.length : Int), .func (.func 38) #[] #[]] w fun e w' => e = .returned (.tuple #[]) ∧ ∃ l', l'.Perm l ∧ TRow w' g c l' ∧ Fr (fun k => k = g) w w' := by
  have hM0 : Mrg g c l w w := ⟨l, List.Perm.refl _, h, Fr.refl _ _⟩
  have M0 := Lib.hid hM0
  obtain ⟨n, hn⟩ : ∃ n, n = l.length := ⟨_, rfl⟩
  rw [← hn]
  have HN := Lib.hid hn
  rw [← hn] at hbnd
  clear h hM0 hn
  go_enter Tryz.func53, Tryz.ntmps53
  go_upto_block 0 with fail
  go_cut [7, 8] (fun x _ wx => ∃ a : Nat, a ≤ n ∧ x = .int .i64 a ∧ Mrg g c l w wx)
  case first =>
    go_wp2_with fail
    go_loopw [7, 8] (fun x y wr => ∃ a : Nat, a ≤ n ∧ x = .int .i64 a ∧ y = .int .i64 ((a + 20 : Nat) : Int) ∧ Mrg g c l w wr) (fun x _ _ => n - (intOf x).toNat)
    case atStart => exact ⟨0, Nat.zero_le _, by first | rfl | go_num, by first | rfl | go_num, M0.out⟩
    case round =>
      obtain ⟨a, han, rfl, rfl, hm⟩ := hrel
      obtain ⟨w1, rfl⟩ : ∃ x, x = wr := ⟨_, rfl⟩
      obtain ⟨l1, hp, ht, hf⟩ := hm
      obtain ⟨b, hb⟩ : ∃ b, b = a + 20 := ⟨_, rfl⟩
      rw [← hb]
      have hlen := hp.length_eq
      rw [← HN.out] at hlen
      by_cases hlt : b ≤ n
      · have hs := ins_any l1 g c a b w1 ht (by omega) (by omega) (by omega)
        rw [hlen] at hs
        have HS := Lib.hid hs
        have HP := Lib.hid hp
        have HF := Lib.hid hf
        have hab : a < b := by omega
        clear hs hp ht hf hlen hb
        go_wp2_with (go_at_call 70; refine HS.out.mono ?_; rintro e w2 ⟨rfl, l2, hp2, ht2, hf2⟩)
        go_roundw
        case rel => exact ⟨b, hlt, rfl, by go_num, l2, hp2.trans HP.out, ht2, HF.out.trans hf2 (fun b hb => .inl hb)⟩
        case measure => simp [intOf]; omega
      · have HM := Lib.hid (Mrg.mk hp ht hf)
        have hlt2 : ¬ ((b : Int) ≤ (n : Int)) := by omega
        clear hp ht hf hlen hb
        go_wp2_with fail
        go_meet
        exact ⟨a, han, rfl, HM.out⟩
  case rest =>
  obtain ⟨a, han, rfl, hm⟩ := hcut
  obtain ⟨w1, rfl⟩ : ∃ x, x = wc := ⟨_, rfl⟩
  obtain ⟨l1, hp, ht, hf⟩ := hm
  have hlen := hp.length_eq
  rw [← HN.out] at hlen
  have hs := ins_any l1 g c a n w1 ht (by omega) (by omega) (by omega)
  rw [hlen] at hs
  have HS := Lib.hid hs
  have HP := Lib.hid hp
  have HF := Lib.hid hf
  clear hs hp ht hf hlen M0
  go_wp2_with (go_at_call 70; refine HS.out.mono ?_; rintro e w2 ⟨rfl, l2, hp2, ht2, hf2⟩)
  have hM2 : Mrg g c l w w2 := ⟨l2, hp2.trans HP.out, ht2, HF.out.trans hf2 (fun b hb => .inl hb)⟩
  have M2 := Lib.hid hM2
  clear hM2 hp2 ht2 hf2
  go_loopw [6, 7, 8, 9] (fun x _ _ _ wr => ∃ bs : Nat, 1 ≤ bs ∧ bs ≤ 4000 ∧ x = .int .i64 bs ∧ Mrg g c l w wr) (fun x _ _ _ _ => n - (intOf x).toNat)
  case atStart => exact ⟨20, by omega, by omega, by first | rfl | go_num, M2.out⟩
  case round =>
    obtain ⟨bs, hb1, hb2, rfl, hm⟩ := hrel
    obtain ⟨w3, rfl⟩ : ∃ x, x = wr := ⟨_, rfl⟩
    have M3 := Lib.hid hm
    clear hm
    by_cases hlt : bs < n
    · go_upto_block 4 with fail
      go_cut [7, 8, 9] (fun x _ _ wx => ∃ a : Nat, a ≤ n ∧ x = .int .i64 a ∧ Mrg g c l w wx)
      case first =>
        go_wp2_with fail
        go_loopw [7, 8] (fun x y wr => ∃ a : Nat, a ≤ n ∧ x = .int .i64 a ∧ y = .int .i64 ((a + 2 * bs : Nat) : Int) ∧ Mrg g c l w wr) (fun x _ _ => n - (intOf x).toNat)
        case atStart => exact ⟨0, Nat.zero_le _, by first | rfl | go_num, by simp, M3.out⟩
        case round =>
          obtain ⟨a, han, rfl, rfl, hm⟩ := hrel
          obtain ⟨w4, rfl⟩ : ∃ x, x = wr := ⟨_, rfl⟩
          obtain ⟨l1, hp, ht, hf⟩ := hm
          obtain ⟨b, hb⟩ : ∃ b, b = a + 2 * bs := ⟨_, rfl⟩
          rw [← hb]
          have hlen := hp.length_eq
          rw [← HN.out] at hlen
          by_cases hlt3 : b ≤ n
          · obtain ⟨m1, hm1⟩ : ∃ m1, m1 = a + bs := ⟨_, rfl⟩
            have hs := sym_any (b - a) l1 g c a m1 b w4 ht (Nat.le_refl _) (by omega) (by omega) (by omega) (by omega)
            rw [hlen] at hs
            have HS := Lib.hid hs
            have HP := Lib.hid hp
            have HF := Lib.hid hf
            have hab : a < b := by omega
            have e1 : (a : Int) + (bs : Int) = (m1 : Int) := by omega
            have e2 : (b : Int) + 2 * (bs : Int) = ((b + 2 * bs : Nat) : Int) := by omega
            have e3 : (b : Int) + 2 * (bs : Int) ≤ 1000000 := by omega
            have e4 : (b : Int) ≤ 1000 := by omega
            have HE2 := Lib.hid e2
            clear hs hp ht hf hlen hb hm1 e2
            go_wp2_with (go_at_call 71; refine HS.out.mono ?_; rintro e w2 ⟨rfl, l2, hp2, ht2, hf2⟩)
            go_roundw
            case rel => exact ⟨b, hlt3, rfl, congrArg (Value.int .i64) HE2.out, l2, hp2.trans HP.out, ht2, HF.out.trans hf2 (fun b hb => .inl hb)⟩
            case measure => simp [intOf]; omega
          · have HM := Lib.hid (Mrg.mk hp ht hf)
            have hlt2 : ¬ ((b : Int) ≤ (n : Int)) := by omega
            clear hp ht hf hlen hb
            go_wp2_with fail
            go_meet
            exact ⟨a, han, rfl, HM.out⟩
      case rest =>
      obtain ⟨a2, ha2, rfl, hm⟩ := hcut
      obtain ⟨w4, rfl⟩ : ∃ x, x = wc := ⟨_, rfl⟩
      obtain ⟨m1, hm1⟩ : ∃ m1, m1 = a2 + bs := ⟨_, rfl⟩
      have e1 : (a2 : Int) + (bs : Int) = (m1 : Int) := by omega
      obtain ⟨l1, hp, ht, hf⟩ := hm
      have hlen := hp.length_eq
      rw [← HN.out] at hlen
      by_cases hmn : m1 < n
      · have hs := sym_any (n - a2) l1 g c a2 m1 n w4 ht (Nat.le_refl _) (by omega) hmn (by omega) (by omega)
        rw [hlen] at hs
        have HS := Lib.hid hs
        have HP := Lib.hid hp
        have HF := Lib.hid hf
        clear hs hp ht hf hlen hm1
        go_wp2_with (go_at_call 71; refine HS.out.mono ?_; rintro e w2 ⟨rfl, l2, hp2, ht2, hf2⟩)
        go_roundw
        case rel => exact ⟨bs * 2, by omega, by omega, by first | go_num | simp, l2, hp2.trans HP.out, ht2, HF.out.trans hf2 (fun b hb => .inl hb)⟩
        case measure => simp [intOf]; omega
      · have HM := Lib.hid (Mrg.mk hp ht hf)
        have hlt2 : ¬ ((m1 : Int) < (n : Int)) := by omega
        clear hp ht hf hlen hm1
        go_wp2_with fail
        go_roundw
        case rel => exact ⟨bs * 2, by omega, by omega, by first | go_num | simp, HM.out⟩
        case measure => simp [intOf]; omega
    · have hlt2 : ¬ ((bs : Int) < (n : Int)) := by omega
      go_wp2_with fail
      go_end0
      exact ⟨rfl, M3.out⟩
set_option maxRecDepth 100000 in
/-- the sort of a slice of the call's own. -/
theorem sort_any (l : List TB) (g c : Nat) (w : World) (h : TRow w g c l) (hbnd : l.length ≤ 1000) :
    Calls Tryz.prog 37 #[.slice (some ⟨g, 0, none⟩) l.length c, .func (.func 38) #[] #[]] w fun e w' => e = .returned (.tuple #[]) ∧ ∃ l', l'.Perm l ∧ TRow w' g c l' ∧ Fr (fun k => k = g) w w' := by
  have hs := stab_any l g c w h hbnd
  have HS := Lib.hid hs
  clear h hs
  go_enter Tryz.func37, Tryz.ntmps37
  go_wp2_with (go_at_call 53; refine HS.out.mono ?_; rintro e w2 ⟨rfl, l2, hp2, ht2, hf2⟩)
  go_end0
  exact ⟨rfl, l2, hp2, ht2, hf2⟩
set_option maxRecDepth 100000 in
theorem ins_zero (A : Option Addr) (c : Nat) (w : World) :
    Calls Tryz.prog 70 #[.slice A 0 c, .int .i64 0, .int .i64 0, .func (.func 38) #[] #[]] w fun e w' => e = .returned (.tuple #[]) ∧ w' = w := by
  go_enter Tryz.func70, Tryz.ntmps70
  go_wp2_with fail
  refine wp_loop_rounds 1 ?_
  rw [rounds_succ]
  go_wp2_with fail
  go_end0
  exact ⟨rfl, rfl⟩
set_option maxRecDepth 100000 in
theorem sort_zero (A : Option Addr) (c : Nat) (w : World) :
    Calls Tryz.prog 37 #[.slice A 0 c, .func (.func 38) #[] #[]] w fun e w' => e = .returned (.tuple #[]) ∧ w' = w := by
  have hs : Calls Tryz.prog 53 #[.slice A 0 c, .int .i64 0, .func (.func 38) #[] #[]] w fun e w' => e = .returned (.tuple #[]) ∧ w' = w := by
    have hi := ins_zero A c w
    have HI := Lib.hid hi
    clear hi
    go_enter Tryz.func53, Tryz.ntmps53
    go_wp2_with fail
    refine wp_loop_rounds 1 ?_
    rw [rounds_succ]
    go_wp2_with (go_at_call 70; refine HI.out.mono ?_; rintro e w2 ⟨rfl, hw⟩; obtain rfl := hw.symm)
    refine wp_loop_rounds 1 ?_
    rw [rounds_succ]
    go_wp2_with fail
    go_end0
    exact ⟨rfl, rfl⟩
  have HS := Lib.hid hs
  clear hs
  go_enter Tryz.func37, Tryz.ntmps37
  go_wp2_with (go_at_call 53; refine HS.out.mono ?_; rintro e w2 ⟨rfl, hw⟩; obtain rfl := hw.symm)
  go_end0
  exact ⟨rfl, rfl⟩
end Go.Proofs.YtlbbbafehhdpnaaGreatDoor
