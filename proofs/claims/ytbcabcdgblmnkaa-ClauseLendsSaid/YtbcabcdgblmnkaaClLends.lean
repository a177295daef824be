/- The law ClauseLends. -/
import Derived.Test.YtbcabcdgblmnkaaClResolves
namespace Go.Proofs.Ytbcabcdgblmnkaa
open Go.RowKit
set_option linter.unusedVariables false
set_option linter.unusedSimpArgs false

theorem RowI.fr {w w' : World} {B : Nat} {v : Value} {xs : List Int} {T : Nat → Prop} (h : RowI w B v xs) (hf : Fr T w w') (hT : ∀ b, T b → b < B) : RowI w' B v xs := by
  obtain ⟨A, c, e, h1, h2, h3, h4⟩ := h
  refine ⟨A, c, e, h1, h2, hf.rd h3 (fun b o e' ht => ?_), fun a ha => ?_⟩
  · obtain ⟨g, cur, e2, hg, _⟩ := h4 _ e'
    injection e2 with e2
    have := hT b ht
    omega
  · obtain ⟨g, cur, e2, hg, hh⟩ := h4 a ha
    exact ⟨g, cur, e2, hg, (hf.block g (Array.getElem?_eq_some_iff.1 hh).1 (fun ht => by have := hT g ht; omega)).trans hh⟩
/-- a row that is being filled: its block holds at least so many cells. -/
def Holds (w : World) (A : Option Addr) (n : Nat) : Prop := ∀ g o, A = some ⟨g, o, none⟩ → o = 0 ∧ ∃ cur, w.heap[g]? = some (.cells cur 3 (0, 0)) ∧ n ≤ cur.size
theorem RowI.hold {w : World} {B c : Nat} {A : Option Addr} {xs : List Int} (h : RowI w B (.slice A xs.length c) xs) : Holds w A xs.length ∧ ∀ g o, A = some ⟨g, o, none⟩ → B ≤ g := by
  obtain ⟨A', c', e, h1, h2, h3, h4⟩ := h
  injection e with e1 _ e3
  subst e1 e3
  constructor
  · intro g o e
    obtain ⟨g', cur, e2, hg, hh⟩ := h4 _ e
    injection e2 with e2 e3
    subst e2 e3
    refine ⟨rfl, cur, hh, ?_⟩
    rcases Nat.eq_zero_or_pos xs.length with h0 | h0
    · omega
    · obtain ⟨b, off, e', hc⟩ := h3.2 h0
      rw [e] at e'
      injection e' with e'
      injection e' with e4 e5
      subst e4 e5
      have hl : xs.length - 1 < (ints xs).length := by rw [ints_length]; omega
      have := hc (xs.length - 1) _ (List.getElem?_eq_getElem hl)
      rw [cell_of_blk hh] at this
      have := (Array.getElem?_eq_some_iff.1 this).1
      omega
  · intro g o e
    obtain ⟨g', cur, e2, hg, hh⟩ := h4 _ e
    injection e2 with e2 e3
    omega
theorem Holds.set {w : World} {g i n : Nat} {u : Value} (h : Holds w (some ⟨g, 0, none⟩) n) : Holds (w.setCell ⟨g, i, none⟩ u) (some ⟨g, 0, none⟩) n := by
  intro g' o e
  injection e with e
  injection e with e1 e2
  subst e1 e2
  obtain ⟨_, cur, hh, hn⟩ := h g 0 rfl
  exact ⟨rfl, _, set_blk hh i u, by simpa using hn⟩
def InB (A : Option Addr) : Nat → Prop := fun b => A = some ⟨b, 0, none⟩

set_option maxRecDepth 100000 in
set_option maxHeartbeats 8000000 in
theorem lends_law {w : World} (A : Option Addr) (n c : Nat) (xs : List Int) (hl : xs.length = n) (hnc : n ≤ c) (hc : c * 8 ≤ 140737488351232) (hr : Rd w 1 A n (ints xs)) (hwf : ∀ x ∈ xs, (Lit.int .i64 x).wf = true)
    (A2 : Option Addr) (n2 c2 : Nat) (xs2 : List Int) (hl2 : xs2.length = n2) (hnc2 : n2 ≤ c2) (hc2 : c2 * 8 ≤ 140737488351232) (hr2 : Rd w 1 A2 n2 (ints xs2)) (hwf2 : ∀ x ∈ xs2, (Lit.int .i64 x).wf = true) :
    Calls Try.prog 4 #[.slice A n c, .slice A2 n2 c2] w fun e w' => e = .returned (.bool true) ∧ Below w.heap.size w w' := by
  obtain ⟨i0, hi, hz0, hz1, hz2⟩ := info_parts info_int
  have hf1 := few_row xs A n c w hl hnc hc hr
  have hf2 := fun w1 (hb : Below w.heap.size w w1) => few_row xs2 A2 n2 c2 w1 hl2 hnc2 hc2 (hr2.below hb)
  have hys := few_len xs
  have hyi := few_i64 (i64s xs hwf)
  have hzs := few_len xs2
  have hzi := few_i64 (i64s xs2 hwf2)
  generalize xs.take 60 = ys at *
  generalize xs2.take 60 = zs at *
  have hffz := fun v B W (h : RowI W B v zs) => few_again zs v B W hzs h
  have hcan := fun A' c' W (hc : ys.length ≤ c') (h : Rd W 1 A' ys.length (ints ys)) => canon_any ys A' ys.length c' W rfl hc (by omega) h hyi
  have hres := fun A' c' A'' c'' B' W (hc : ys.length ≤ c') (h : Rd W 1 A' ys.length (ints ys)) (h' : RowI W B' (.slice A'' zs.length c'') zs) => resolve_any ys zs A' A'' ys.length c' zs.length c'' W rfl hc (by omega) h hyi rfl h'.rd2.1 (by omega) h'.rd2.2.2 hzi
  have haw := cawake_any
  have hcl : (if goodB ys = true then canonI ys else []).length ≤ 60 := by
    split
    · have := canonI_len ys; omega
    · simp
  have hdl : (resP ys zs).1.length ≤ 200 := by
    unfold resP
    split
    · rcases resC_cases (canonI ys) (canonI zs) with e | ⟨l, _, e⟩
      · rw [e]; simp
      · rw [e]
        have h1 := canonI_len (cutL (canonI ys) (canonI zs) l)
        have h2 := canonI_len ys
        have h3 := canonI_len zs
        unfold cutL at h1
        rw [List.length_append] at h1
        have := List.length_filter_le (fun a => decide (a ≠ l)) (canonI ys)
        have := List.length_filter_le (fun a => decide (a ≠ -l)) (canonI zs)
        unfold cutL
        simp only
        omega
    · simp
  generalize (if goodB ys = true then canonI ys else []) = cl at *
  generalize (if goodB ys = true then (0 : Int) else 4) = ce at *
  generalize resP ys zs = R at *
  obtain ⟨dl, on, er⟩ := R
  simp only at hres hdl
  have HF1 := Lib.hid hf1
  have HF2 := Lib.hid hf2
  have HFZ := Lib.hid hffz
  have HCN := Lib.hid hcan
  have HRS := Lib.hid hres
  have HAW := Lib.hid haw
  clear hf1 hf2 hffz hcan hres haw hr hr2 hwf hwf2 hyi hzi
  go_enter Try.func4, Try.ntmps4
  go_wp2_with fail
  go_at_call 13
  refine (HF1.out).mono ?_
  rintro e w1 ⟨v1, rfl, ho1, hb1⟩
  go_wp2_with fail
  go_at_call 13
  refine (HF2.out _ hb1).mono ?_
  rintro e w2 ⟨v2, rfl, ho2, hb2⟩
  obtain ⟨A1, c1, rfl⟩ := ho1.form
  obtain ⟨A3, c3, rfl⟩ := ho2.form
  have hb12 := bstepC hb1 hb2
  have HO1 := Lib.hid (ho1.below hb2)
  have HO2 := Lib.hid ho2
  clear ho1 ho2
  go_wp2_with (at_make; refine make2 w2.heap.size w2 w2 rfl _ _ 22 rfl 3 i0 (.int .i64 0) 8 Try.underlying22 hi hz0 hz1 hz2 rfl (by decide) .i64 .i64 0 ((ys.length : Int) + 2) 0 (ys.length + 2) rfl rfl rfl (by omega) (by omega) (by omega) [] rfl (Nat.le_refl _) (Below.refl _ _) ?_)
  intro w3 hown3 hb3 _
  have hy3 := (HO1.out.below hb3).rd2.2.2
  go_wp2_with (at_builtin; refine appR w2.heap.size w2 w3 3 rfl (.tmp 21) (.tmp 22) 22 rfl i0 (.int .i64 0) 8 Try.underlying22 hi hz0 hz1 hz2 rfl (by decide) _ 0 [] rfl (Nat.le_refl _) hown3 hb3 A1 ys.length c1 (ints ys) rfl hy3 (ints_one ys) (by omega) ?_)
  intro v4 w4 hown4 hb4 _
  clear hown3 hb3 hy3
  go_wp2_with (at_builtin; refine app1 w2.heap.size w2 w4 (.int .i64 77) 3 rfl (.tmp 23) (.tmp 24) 22 rfl i0 (.int .i64 0) 8 Try.underlying22 hi hz0 hz1 hz2 rfl (by decide) _ ys.length (ints ys) rfl (Nat.le_refl _) hown4 hb4 rfl rfl (by omega) ?_)
  intro v5 w5 hown5 hb5 _
  have hown5 := OwnI.snoc hown5 rfl
  obtain ⟨A5, c5, rfl, hnc5, hr5⟩ := hown5.form
  have hl5 : (ys ++ [77]).length = ys.length + 1 := by simp
  rw [hl5] at hnc5 hr5 ⊢
  have hc5 : c5 ≤ maxLen := by
    obtain ⟨A', c', e, _, h, _⟩ := hown5.row.rd
    injection e with _ _ e
    subst e
    exact h
  unfold maxLen at hc5
  have h77 : ∃ g o, A5 = some ⟨g, o, none⟩ ∧ w5.cell? ⟨g, o + ys.length, none⟩ = some (.int .i64 77) ∧ g < w5.heap.size := by
    obtain ⟨b, off, e, hc⟩ := hr5.int ys.length (by omega) (by simp)
    refine ⟨b, off, e, ?_, World.block_lt_of_cell? _ _ hc⟩
    rw [hc]
    simp
  obtain ⟨g5, o5, rfl, h77, hg5⟩ := h77
  have hx5 := hr5.take (k := ys.length) (by omega)
  rw [show (ints (ys ++ [77])).take ys.length = ints ys by rw [ints_append, ← ints_length ys, List.take_left]] at hx5
  have HX5 := Lib.hid hx5
  have H77 := Lib.hid h77
  have HY1 := Lib.hid (HO1.out.below hb5)
  have HY2 := Lib.hid (HO2.out.below hb5)
  have hle5 : (ys.length : Int) ≤ (c5 : Int) := by omega
  have hle6 : (0 : Int) ≤ (ys.length : Int) := by omega
  clear hown4 hb4 hown5 hr5 h77 hx5 hl5
  go_wp2_with fail
  go_at_call 13
  refine (HFZ.out _ _ _ HY2.out).mono ?_
  rintro e w6 ⟨v6, rfl, ho6, hb6⟩
  obtain ⟨A6, c6, rfl⟩ := ho6.form
  have HO6 := Lib.hid ho6
  clear ho6
  go_wp2_with fail
  go_at_call 21
  refine (HCN.out _ _ _ (by omega) (HX5.out.below hb6)).mono ?_
  rintro e w7 ⟨v7, rfl, ho7, hb7⟩
  obtain ⟨A7, c7, rfl⟩ := ho7.form
  have HO7 := Lib.hid ho7
  clear ho7
  go_wp2_with fail
  go_at_call 14
  refine (HRS.out _ _ _ _ _ _ (by omega) (HX5.out.below (bstepC hb6 hb7)) (HO6.out.below hb7)).mono ?_
  rintro e w8 ⟨v8, rfl, ho8, hb8⟩
  obtain ⟨A8, c8, rfl⟩ := ho8.form
  have HO8 := Lib.hid ho8
  clear ho8
  have h7 := (HO7.out.below hb8).hold
  have hs68 : w6.heap.size ≤ w8.heap.size := by have := hb7.size; have := hb8.size; omega
  have hlt7 : ∀ b, InB A7 b → w6.heap.size ≤ b ∧ b < w7.heap.size := fun b e => ⟨HO7.out.hold.2 b 0 e, by obtain ⟨_, cur, hh, _⟩ := HO7.out.hold.1 b 0 e; exact lt_of_blk hh⟩
  have hex7 : 0 < cl.length → ∃ g, A7 = some ⟨g, 0, none⟩ := fun h0 => by
    obtain ⟨b, off, e, _⟩ := HO7.out.rd2.2.2.2 h0
    exact ⟨b, by rw [e, (HO7.out.hold.1 b off e).1]⟩
  have HH7 := Lib.hid h7.1
  have HL7 := Lib.hid hlt7
  have HE7 := Lib.hid hex7
  clear h7 hlt7 hex7
  go_wp2_with fail
  go_loopw [46] (fun x wr => ∃ (i : Nat), i ≤ cl.length ∧ x = .int .i64 i ∧ Holds wr A7 cl.length ∧ Fr (InB A7) w8 wr) (fun x _ => cl.length - (intOf x).toNat)
  case atStart => exact ⟨0, Nat.zero_le _, rfl, HH7.out, Fr.refl _ _⟩
  case round =>
    obtain ⟨i, hi', rfl, hho, hfr⟩ := hrel
    by_cases hlt : i < cl.length
    · obtain ⟨g, rfl⟩ := HE7.out (by omega)
      obtain ⟨_, cur, hh, hn⟩ := hho g 0 rfl
      have y0 := cell_of_blk hh i
      rw [Array.getElem?_eq_getElem (by omega)] at y0
      have z0 := frozen_of_blk hh i
      have HF := Lib.hid (hfr.setCell ⟨g, i, none⟩ (.int .i64 5) (.inl rfl))
      have HH := Lib.hid (hho.set (i := i) (u := .int .i64 5))
      generalize cur[i] = old at *
      clear hho hfr hh
      go_wp2_with fail
      go_roundw
      case rel => exact ⟨i + 1, by omega, by go_num, HH.out, HF.out⟩
      case measure => simp [intOf]; omega
    · obtain rfl : i = cl.length := by omega
      obtain ⟨w9, rfl⟩ : ∃ x, x = wr := ⟨_, rfl⟩
      have hb89 : Below w6.heap.size w8 w9 := hfr.below hs68 (fun b hb => (HL7.out b hb).1)
      have ho9 := HO8.out.fr hfr (fun b hb => (HL7.out b hb).2)
      have HO9 := Lib.hid ho9
      have hex8 : 0 < dl.length → ∃ g, A8 = some ⟨g, 0, none⟩ := fun h0 => by
        obtain ⟨b, off, e, _⟩ := HO9.out.rd2.2.2.2 h0
        exact ⟨b, by rw [e, (HO9.out.hold.1 b off e).1]⟩
      have HE8 := Lib.hid hex8
      have HH8 := Lib.hid ho9.hold.1
      have HB89 := Lib.hid hb89
      clear ho9 hex8 hb89 hho hfr hlt
      go_wp2_with fail
      go_loopw [55] (fun x wr => ∃ (i : Nat), i ≤ dl.length ∧ x = .int .i64 i ∧ Holds wr A8 dl.length ∧ Fr (InB A8) w9 wr) (fun x _ => dl.length - (intOf x).toNat)
      case atStart => exact ⟨0, Nat.zero_le _, rfl, HH8.out, Fr.refl _ _⟩
      case round =>
        obtain ⟨i, hi', rfl, hho, hfr⟩ := hrel
        by_cases hlt : i < dl.length
        · obtain ⟨g, rfl⟩ := HE8.out (by omega)
          obtain ⟨_, cur, hh, hn⟩ := hho g 0 rfl
          have y0 := cell_of_blk hh i
          rw [Array.getElem?_eq_getElem (by omega)] at y0
          have z0 := frozen_of_blk hh i
          have HF := Lib.hid (hfr.setCell ⟨g, i, none⟩ (.int .i64 6) (.inl rfl))
          have HH := Lib.hid (hho.set (i := i) (u := .int .i64 6))
          generalize cur[i] = old at *
          clear hho hfr hh
          go_wp2_with fail
          go_roundw
          case rel => exact ⟨i + 1, by omega, by go_num, HH.out, HF.out⟩
          case measure => simp [intOf]; omega
        · obtain rfl : i = dl.length := by omega
          have hs69 : w6.heap.size ≤ w9.heap.size := by have := HB89.out.size; omega
          have hb9r : Below w6.heap.size w9 wr := hfr.below hs69 (fun b hb => by have := HO9.out.hold.2 b 0 hb; have := hb7.size; omega)
          have hb6r : Below w6.heap.size w6 wr := ((bstepC hb7 hb8).trans HB89.out).trans hb9r
          have HB := Lib.hid hb6r
          clear hho hfr hlt hb9r
          go_wp2_with fail
          go_at_call 16
          refine (HAW.out _).mono ?_
          rintro e w10 ⟨rfl, hb10⟩
          have hb610 := bstepC HB.out hb10
          have hb510 := bstepC hb6 hb610
          have hx10 := HX5.out.below hb510
          have hy10 := (HY1.out.below hb510).rd2.2.2
          have hs1 := same_any ys ys (some ⟨g5, o5, none⟩) A1 ys.length c5 ys.length c1 w10 rfl (by unfold maxLen; omega) hx10 rfl (by unfold maxLen; omega) hy10
          rw [decide_eq_true rfl] at hs1
          have HS1 := Lib.hid hs1
          clear hs1 hx10 hy10
          go_wp2_with fail
          go_at_call 19
          refine (HS1.out).mono ?_
          rintro e w11 ⟨rfl, q11, rfl⟩
          have hz10 := (HO6.out.below (below_drewN hb610 q11)).rd2.2.2
          have hy10 := (HY2.out.below (below_drewN hb510 q11)).rd2.2.2
          have hs2 := same_any zs zs A6 A3 zs.length c6 zs.length c3 (w10.drewN q11) rfl (by unfold maxLen; omega) hz10 rfl (by unfold maxLen; omega) hy10
          rw [decide_eq_true rfl] at hs2
          have HS2 := Lib.hid hs2
          have h77 := (hb510.cell (p := ⟨g5, o5 + ys.length, none⟩) hg5).trans H77.out
          clear hs2 hz10 hy10
          go_wp2_with fail
          go_at_call 19
          refine (HS2.out).mono ?_
          rintro e w12 ⟨rfl, q12, rfl⟩
          have hle7 : (ys.length : Int) + 1 ≤ (c5 : Int) := by omega
          go_wp2_with fail
          go_ret
          exact ⟨by simp, below_drewN (bstepC hb12 (bstepC hb5 hb510)) _⟩
end Go.Proofs.Ytbcabcdgblmnkaa
