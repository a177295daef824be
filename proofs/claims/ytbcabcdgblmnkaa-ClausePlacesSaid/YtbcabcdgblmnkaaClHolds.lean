/- The law ClauseHolds. -/
import Derived.Test.YtbcabcdgblmnkaaClLaw1
namespace Go.Proofs.Ytbcabcdgblmnkaa
open Go.RowKit
set_option linter.unusedVariables false
set_option linter.unusedSimpArgs false

theorem few2 (xs : List Int) : (xs.take 60).take 60 = xs.take 60 := List.take_of_length_le (by rw [List.length_take]; omega)
theorem few_len (xs : List Int) : (xs.take 60).length ≤ 60 := by rw [List.length_take]; omega
theorem few_i64 {xs : List Int} (h : ∀ l ∈ xs, IsI64 l) : ∀ l ∈ xs.take 60, IsI64 l := fun l hl => h l (List.mem_of_mem_take hl)
theorem any_mem (xs ys : List Int) (P : Int → Bool) (h : ∀ a, a ∈ xs ↔ a ∈ ys) : xs.any P = ys.any P := by
  rw [Bool.eq_iff_iff, List.any_eq_true, List.any_eq_true]
  constructor
  · rintro ⟨a, h1, h2⟩; exact ⟨a, (h a).1 h1, h2⟩
  · rintro ⟨a, h1, h2⟩; exact ⟨a, (h a).2 h1, h2⟩
theorem canon_holds (xs : List Int) (vals : List Bool) : (canonI xs).any (holdL vals) = xs.any (holdL vals) := any_mem _ _ _ (canonI_mem xs)
/-- few of what is few already. -/
theorem few_again (xs : List Int) (v : Value) (B : Nat) (w : World) (hs : xs.length ≤ 60) (h : RowI w B v xs) : Calls Try.prog 13 #[v] w fun e w' => ∃ v', e = .returned v' ∧ RowI w' w.heap.size v' xs ∧ Below w.heap.size w w' := by
  obtain ⟨A, c, rfl, hnc, hc, hr⟩ := h.rd
  refine (few_any xs A xs.length c w rfl hnc hc hr).mono ?_
  rintro e w' ⟨v', rfl, ho, hb⟩
  rw [List.take_of_length_le hs] at ho
  exact ⟨v', rfl, ho.row, hb⟩
theorem few_row (xs : List Int) (A : Option Addr) (n c : Nat) (w : World) (hl : xs.length = n) (hnc : n ≤ c) (hc : c * 8 ≤ 140737488351232) (hr : Rd w 1 A n (ints xs)) :
    Calls Try.prog 13 #[.slice A n c] w fun e w' => ∃ v, e = .returned v ∧ RowI w' w.heap.size v (xs.take 60) ∧ Below w.heap.size w w' :=
  (few_any xs A n c w hl hnc (by unfold maxLen; omega) hr).mono fun e w' ⟨v, h1, h2, h3⟩ => ⟨v, h1, h2.row, h3⟩
theorem RowI.form {w : World} {B : Nat} {v : Value} {xs : List Int} (h : RowI w B v xs) : ∃ A c, v = .slice A xs.length c := by obtain ⟨A, c, e, _⟩ := h; exact ⟨A, c, e⟩
theorem goodR (xs : List Int) (A : Option Addr) (c B : Nat) (w : World) (hs : xs.length ≤ 60) (h : RowI w B (.slice A xs.length c) xs) : Calls Try.prog 15 #[.slice A xs.length c] w fun e w' => e = .returned (.bool (goodB xs)) ∧ w' = w := by
  obtain ⟨A', c', e, hnc, hc, hr⟩ := h.rd
  injection e with e1 _ e3
  subst e1 e3
  exact good_any xs A xs.length c w rfl (by unfold maxLen; omega) hr

theorem RowI.rd2 {w : World} {B c : Nat} {A : Option Addr} {xs : List Int} (h : RowI w B (.slice A xs.length c) xs) : xs.length ≤ c ∧ c ≤ maxLen ∧ Rd w 1 A xs.length (ints xs) := by
  obtain ⟨A', c', e, hnc, hc, hr⟩ := h.rd
  injection e with e1 _ e3
  subst e1 e3
  exact ⟨hnc, hc, hr⟩

set_option maxRecDepth 100000 in
set_option maxHeartbeats 4000000 in
theorem holds_law {w : World} (A : Option Addr) (n c : Nat) (xs : List Int) (hl : xs.length = n) (hnc : n ≤ c) (hc : c * 8 ≤ 140737488351232) (hr : Rd w 1 A n (ints xs)) (hwf : ∀ x ∈ xs, (Lit.int .i64 x).wf = true)
    (A2 : Option Addr) (n2 c2 : Nat) (vals : List Bool) (hl2 : vals.length = n2) (hnc2 : n2 ≤ c2) (hc2 : c2 * 1 ≤ 140737488351232) (hr2 : Rd w 1 A2 n2 (boolL vals)) :
    Calls Try.prog 5 #[.slice A n c, .slice A2 n2 c2] w fun e w' => e = .returned (.bool true) ∧ Below w.heap.size w w' := by
  obtain ⟨i0, hinf, hz0, hz1, hz2⟩ := info_parts info_bool
  have hf1 := few_row xs A n c w hl hnc hc hr
  have hys := few_len xs
  have hyi := few_i64 (i64s xs hwf)
  generalize xs.take 60 = ys at *
  have hff := fun v W (h : RowI W w.heap.size v ys) => few_again ys v w.heap.size W hys h
  have hgd := fun A' c' W (h : RowI W w.heap.size (.slice A' ys.length c') ys) => goodR ys A' c' w.heap.size W hys h
  have hho := fun A' c' B A3 c3 W (h : RowI W B (.slice A' ys.length c') ys) (h3 : Rd W 1 A3 n2 (boolL vals)) => holds_any ys A' ys.length c' vals A3 n2 c3 W rfl h.rd2.1 (by omega) h.rd2.2.2 hyi hl2 (by unfold maxLen; omega) h3
  have hrh := fun hg A' c' B A3 c3 W (h : RowI W B (.slice A' ys.length c') ys) (h3 : Rd W 1 A3 n2 (boolL vals)) => holdsR_any ys A' ys.length c' vals A3 n2 c3 W rfl (by unfold maxLen; omega) h.rd2.2.2 (good_lit (xs := ys) hg hyi) hl2 (by unfold maxLen; omega) h3
  rw [canon_holds] at hho
  have haw := cawake_any
  generalize ys.any (holdL vals) = H at *
  generalize goodB ys = G at *
  generalize hV : (if G = true then H else false) = V at *
  generalize hE : (if G = true then (0 : Int) else 4) = E at *
  have HV := Lib.hid (And.intro hV hE)
  clear hV hE
  have HF1 := Lib.hid hf1
  have HFF := Lib.hid hff
  have HGD := Lib.hid hgd
  have HHO := Lib.hid hho
  have HRH := Lib.hid hrh
  have HAW := Lib.hid haw
  have HR2 := Lib.hid hr2
  clear hf1 hff hgd hho hrh haw hr hr2 hyi hwf
  go_enter Try.func5, Try.ntmps5
  go_wp2_with fail
  go_at_call 13
  refine (HF1.out).mono ?_
  rintro e w1 ⟨v1, rfl, ho1, hb1⟩
  obtain ⟨A1, c1, rfl⟩ := ho1.form
  have HO1 := Lib.hid ho1
  clear ho1
  go_wp2_with fail
  go_at_call 13
  refine (HFF.out _ _ HO1.out).mono ?_
  rintro e w2 ⟨v2, rfl, ho2, hb2⟩
  obtain ⟨A4, c4, rfl⟩ := ho2.form
  have hb12 := bstepC hb1 hb2
  have HRV := Lib.hid (HR2.out.below hb12)
  have HO2 := Lib.hid ho2
  clear ho2
  go_wp2_with (at_builtin; refine appR w2.heap.size w2 (w2.alloc (.cells #[] 4)) 4 rfl _ _ 23 rfl i0 (.bool false) 1 Try.underlying23 hinf hz0 hz1 hz2 rfl (by decide) _ 0 [] rfl (Nat.le_refl _) (own_empty _ _ _ (Nat.le_refl _)) ((Below.refl _ _).alloc (Nat.le_refl _) _) A2 n2 c2 (boolL vals) rfl (HRV.out.alloc _) (boolL_one vals) (by omega) ?_)
  intro v3 w3 hown3 hb3 _
  obtain ⟨A3, c3, rfl, _, hr3⟩ := ownsRow_form hown3
  try simp only [Nat.zero_add, List.nil_append] at hr3
  have HR3 := Lib.hid hr3
  have HO3 := Lib.hid (HO2.out.below hb3)
  have hb13 := bstepC hb12 hb3
  clear hown3 hr3
  go_wp2_with fail
  go_at_call 22
  refine (HHO.out _ _ _ _ _ _ HO3.out HR3.out).mono ?_
  rintro e w4 ⟨rfl, hb4⟩
  have hb14 := bstepC hb13 hb4
  have HO4 := Lib.hid (HO1.out.below (bstepC (bstepC hb2 hb3) hb4))
  go_wp2_with fail
  go_at_call 15
  refine (HGD.out _ _ _ HO4.out).mono ?_
  rintro e w' ⟨rfl, hw⟩; obtain rfl := hw.symm
  obtain ⟨hV, hE⟩ := HV.out
  cases G with
  | true =>
    rw [if_pos rfl] at hV hE
    subst hV hE
    have HRH2 := Lib.hid (HRH.out rfl)
    go_wp2_with fail
    go_at_call 16
    refine (HAW.out _).mono ?_
    rintro e w5 ⟨rfl, hb5⟩
    have HO5 := Lib.hid (HO4.out.below hb5)
    have HR5 := Lib.hid (HR2.out.below (bstepC hb14 hb5))
    go_wp2_with fail
    go_at_call 20
    refine (HRH2.out _ _ _ _ _ _ HO5.out HR5.out).mono ?_
    rintro e w' ⟨rfl, hw⟩; obtain rfl := hw.symm
    go_wp2_with fail
    go_ret
    exact ⟨by simp, bstepC hb14 hb5⟩
  | false =>
    rw [if_neg (by simp)] at hV hE
    subst hV hE
    go_wp2_with fail
    go_at_call 16
    refine (HAW.out _).mono ?_
    rintro e w5 ⟨rfl, hb5⟩
    go_wp2_with fail
    go_ret
    exact ⟨by simp, bstepC hb14 hb5⟩
end Go.Proofs.Ytbcabcdgblmnkaa
