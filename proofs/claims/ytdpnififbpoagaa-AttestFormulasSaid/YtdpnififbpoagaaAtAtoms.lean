/- Contracts of package logic: Atoms; of the reference: Has. -/
import Derived.Test.YtdpnififbpoagaaAtWalk
import Derived.Test.YtdpnififbpoagaaShelf
import Derived.Lib.OwnBridge
import Derived.Lib.SortBridge
import Derived.Lib.SlicesCompact
import Derived.Test.YtdpnififbpoagaaFmRef2
import Derived.Test.YtdpnififbpoagaaFmMath
namespace Go.Proofs.Ytdpnififbpoagaa
open Go.RowKit
set_option linter.unusedVariables false
set_option linter.unusedSimpArgs false

/-- sorted, each once. -/
def sortI (xs : List Int) : List Int := xs.mergeSort fun x y => decide (x ≤ y)
def atomsI (f : Fm) : List Int := Lib.compact (sortI (atomsF f))
theorem sortI_mem (xs : List Int) (a : Int) : a ∈ sortI xs ↔ a ∈ xs := (List.mergeSort_perm xs _).mem_iff
theorem sortI_len (xs : List Int) : (sortI xs).length = xs.length := (List.mergeSort_perm xs _).length_eq
theorem sortI_sorted (xs : List Int) : (sortI xs).Pairwise fun a b => a ≤ b := by
  have h := List.pairwise_mergeSort (le := fun (x y : Int) => decide (x ≤ y)) (fun a b c h1 h2 => by simp at *; omega) (fun a b => by simp; omega) xs
  exact h.imp fun h => by simpa using h

theorem grow_belowA {w : World} (os : Array Obj) : Below w.heap.size w (Sort.grow w os) :=
  ⟨rfl, rfl, rfl, by simp, fun k hk => Sort.heap_grow_old w os hk⟩
theorem sort_int (xs : List Int) (B : Nat) (v : Value) (w : World) (hn : xs.length ≤ 1000000) (ho : w.ownsRow B 3 1 v xs.length (intL xs)) :
    Calls Try.prog 61 #[v] w fun e w' => e = .returned (.tuple #[]) ∧ w'.ownsRow B 3 1 v xs.length (intL (sortI xs)) ∧ ∀ W0, Below B W0 w → Below B W0 w' := by
  by_cases hv : v = .slice none 0 0
  · subst hv
    have hx : xs = [] := by
      rcases ho.2 with ⟨_, h⟩ | ⟨g, cap, cur, e, _⟩
      · exact List.eq_nil_of_length_eq_zero h
      · cases e
    subst hx
    refine (Try.slices_Sort_int_none none 0 w).mono ?_
    rintro e w' ⟨rfl, rfl⟩
    exact ⟨rfl, by simpa [sortI] using ho, fun W0 h => h⟩
  · obtain ⟨g, cap, rfl, hBg, hgw, hnc, hm, _, hH⟩ := Lib.holds_of_ownsRow ho hv
    refine (Try.slices_Sort_int g 0 cap xs w hH hgw (by omega)).mono ?_
    rintro e w' ⟨rfl, q, os, rfl⟩
    have hyl := sortI_len xs
    have hown := Lib.ownsRow_putRow (q := q) (k := xs.length) (ys := sortI xs) ho hyl (Nat.le_refl _)
    rw [List.take_of_length_le (by omega)] at hown
    exact ⟨rfl, own_below hown (grow_belowA os), fun W0 h => (Lib.below_putRow h hBg).trans ((grow_belowA os).mono (by simp [Sort.putRow, Sort.mapBlock, Sort.ahead]; omega))⟩
theorem compact_int (ys : List Int) (B : Nat) (v : Value) (w : World) (hn : ys.length ≤ 1000000) (ho : w.ownsRow B 3 1 v ys.length (intL ys)) :
    Calls Try.prog 62 #[v] w fun e w' => ∃ v', e = .returned v' ∧ w'.ownsRow B 3 1 v' (Lib.compact ys).length (intL (Lib.compact ys)) ∧ ∀ W0, Below B W0 w → Below B W0 w' := by
  by_cases hv : v = .slice none 0 0
  · subst hv
    have hx : ys = [] := by
      rcases ho.2 with ⟨_, h⟩ | ⟨g, cap, cur, e, _⟩
      · exact List.eq_nil_of_length_eq_zero h
      · cases e
    subst hx
    refine (Try.slices_Compact_int_empty none 0 w).mono ?_
    rintro e w' ⟨rfl, rfl⟩
    exact ⟨_, rfl, ho, fun W0 h => h⟩
  · obtain ⟨g, cap, rfl, hBg, hgw, hnc, hm, _, hH⟩ := Lib.holds_of_ownsRow ho hv
    refine (Try.slices_Compact_int g 0 cap ys w hH (by omega) hnc).mono ?_
    rintro e w' ⟨rfl, q, rfl⟩
    have hle := Lib.compact_length_le ys
    have hown := Lib.ownsRow_putRow (q := q) (k := (Lib.compact ys).length) (ys := Lib.compact ys ++ List.replicate (ys.length - (Lib.compact ys).length) 0) ho (by simp; omega) hle
    rw [List.take_left' rfl] at hown
    exact ⟨_, rfl, hown, fun W0 h => Lib.below_putRow h hBg⟩
end Go.Proofs.Ytdpnififbpoagaa

namespace Go.Proofs.Ytdpnififbpoagaa
open Go.RowKit
set_option linter.unusedVariables false
set_option linter.unusedSimpArgs false

theorem compact_uptoI (d : Array Int) (hs : ∀ i j, i < j → j < d.size → d[i]! ≤ d[j]!) (m : Nat) (hm : m ≤ d.size) :
    ((Lib.compactUpTo d m).Pairwise fun a b => a < b) ∧ ∀ a, a ∈ Lib.compactUpTo d m ↔ ∃ j, j < m ∧ d[j]! = a := by
  induction m with
  | zero => exact ⟨by simp [Lib.compactUpTo], fun a => by simp [Lib.compactUpTo]⟩
  | succ m ih =>
    obtain ⟨h1, h2⟩ := ih (by omega)
    rw [Lib.compactUpTo_succ]
    have hle : ∀ j, j < m → d[j]! ≤ d[m]! := fun j hj => hs j m hj (by omega)
    cases hk : Lib.keeps d m with
    | true =>
      rw [if_pos rfl]
      refine ⟨List.pairwise_append.2 ⟨h1, by simp, fun a ha b hb => ?_⟩, fun a => ?_⟩
      · obtain ⟨j, hj, rfl⟩ := (h2 a).1 ha
        obtain rfl : b = d[m]! := by simpa using hb
        have hlj := hle j hj
        by_cases hjm : d[j]! < d[m]!
        · exact hjm
        · have e : d[j]! = d[m]! := by omega
          have hne : d[m]! ≠ d[m - 1]! := by
            simp only [Lib.keeps, decide_eq_true_eq] at hk
            rcases hk with hk | hk
            · omega
            · exact hk
          have h3 := hle (m - 1) (by omega)
          have h4 : d[m]! ≤ d[m - 1]! := by
            rw [← e]
            rcases Nat.lt_or_ge j (m - 1) with h | h
            · exact hs j (m - 1) h (by omega)
            · obtain rfl : j = m - 1 := by omega
              exact Int.le_refl _
          omega
      · rw [List.mem_append, h2]
        constructor
        · rintro (⟨j, hj, e⟩ | e)
          · exact ⟨j, by omega, e⟩
          · exact ⟨m, by omega, (List.mem_singleton.1 e).symm⟩
        · rintro ⟨j, hj, e⟩
          by_cases hjm : j < m
          · exact .inl ⟨j, hjm, e⟩
          · obtain rfl : j = m := by omega
            exact .inr (by simp [e])
    | false =>
      rw [if_neg (by simp), List.append_nil]
      simp only [Lib.keeps, decide_eq_false_iff_not, not_or] at hk
      obtain ⟨hm0, hne⟩ := hk
      have hne : d[m]! = d[m - 1]! := Classical.not_not.1 hne
      refine ⟨h1, fun a => ?_⟩
      rw [h2]
      constructor
      · rintro ⟨j, hj, e⟩; exact ⟨j, by omega, e⟩
      · rintro ⟨j, hj, e⟩
        by_cases hjm : j < m
        · exact ⟨j, hjm, e⟩
        · obtain rfl : j = m := by omega
          exact ⟨j - 1, by omega, by rw [← hne]; exact e⟩
theorem compactI (zs : List Int) (hs : zs.Pairwise fun a b => a ≤ b) : ((Lib.compact zs).Pairwise fun a b => a < b) ∧ ∀ a, a ∈ Lib.compact zs ↔ a ∈ zs := by
  obtain ⟨h1, h2⟩ := compact_uptoI zs.toArray (fun i j hij hj => by
    simp only [List.size_toArray] at hj
    have := List.pairwise_iff_getElem.1 hs i j (by omega) hj hij
    rw [getElem!_pos zs.toArray j (by simpa using hj), getElem!_pos zs.toArray i (by simp; omega)]
    simpa using this) zs.length (by simp)
  refine ⟨h1, fun a => (h2 a).trans ⟨?_, fun ha => ?_⟩⟩
  · rintro ⟨j, hj, e⟩
    rw [getElem!_pos zs.toArray j (by simpa using hj)] at e
    rw [← e]
    simp
  · obtain ⟨j, hj, e⟩ := List.getElem_of_mem ha
    exact ⟨j, hj, by rw [getElem!_pos zs.toArray j (by simpa using hj)]; simpa using e⟩
theorem atomsI_strict (f : Fm) : (atomsI f).Pairwise fun a b => a < b := (compactI _ (sortI_sorted _)).1
theorem atomsI_mem (f : Fm) (a : Int) : a ∈ atomsI f ↔ a ∈ atomsF f := ((compactI _ (sortI_sorted _)).2 a).trans (sortI_mem _ a)
theorem atomsI_len (f : Fm) : (atomsI f).length ≤ sizeF f := Nat.le_trans (Lib.compact_length_le _) (by rw [sortI_len]; exact atomsF_len f)

set_option maxRecDepth 100000 in
set_option maxHeartbeats 4000000 in
theorem atoms_any {w0 : World} {fs : List Fm} {sv : Value} (h : FIn w0 fs sv) (w : World) (k a n : Int) (hb : Below w0.heap.size w0 w) :
    Calls Try.prog 36 #[.agg #[.int .i64 k, .int .i64 a, sv], .int .i64 n] w fun e w' => ∃ v, e = .returned (.tuple #[v, .int .i64 (checkF (.mk k a fs) n)]) ∧
      w'.ownsRow w.heap.size 3 1 v (if checkF (.mk k a fs) n = 0 then atomsI (.mk k a fs) else []).length (intL (if checkF (.mk k a fs) n = 0 then atomsI (.mk k a fs) else [])) ∧ Below w.heap.size w w' := by
  have hb1 : Below w.heap.size w (w.alloc (.cells #[.int .i64 k, .int .i64 a, sv] 48)) := (Below.refl _ _).alloc (Nat.le_refl _) _
  have hck := check_any h (w.alloc (.cells #[.int .i64 k, .int .i64 a, sv] 48)) k a n (hb.trans (hb1.mono hb.size))
  have hbox := heap_alloc_new w (.cells #[.int .i64 k, .int .i64 a, sv] 48)
  have hg : checkF (.mk k a fs) n = 0 → sizeF (.mk k a fs) ≤ 20000 := fun h0 => great_size (checkF_great h0).1
  obtain ⟨A, c, rfl, _, _⟩ := h.form
  have hwk := fun cb hcb W v ys h1 h2 h3 => walk_any h cb hcb W k a v ys h1 h2 h3
  obtain ⟨F, hF⟩ : ∃ F, F = Fm.mk k a fs := ⟨_, rfl⟩
  rw [← hF] at hg hwk hck ⊢
  have HB := Lib.hid hb
  have HB1 := Lib.hid hb1
  have HBX := Lib.hid hbox
  have HWK := Lib.hid hwk
  clear hb hb1 hbox hwk
  by_cases hC : checkF F n = 0
  · rw [hC] at hck ⊢
    rw [if_pos rfl]
    have hsz := hg hC
    have hal := atomsF_len F
    have hil := atomsI_len F
    clear hC hg h hF
    go_enter Try.func36, Try.ntmps36
    go_upto_region 5 with (go_at_call 39; refine hck.mono ?_; rintro e w1 ⟨rfl, hb2⟩; have hbx1 := (hb2.block _ (by simp)).trans HBX.out; have hb3 := HB1.out.trans (hb2.mono HB1.out.size); have HBX1 := Lib.hid hbx1; have HB3 := Lib.hid hb3; clear hb2 hbx1 hb3; have x0 := (cell_of_blk HBX1.out 0); have x1 := (cell_of_blk HBX1.out 1); have x2 := (cell_of_blk HBX1.out 2); simp at x0 x1 x2)
    have hb4 := (Below.refl w1.heap.size w1).alloc (Nat.le_refl _) (.cells #[.slice none 0 0] 24)
    have hcbk := heap_alloc_new w1 (.cells #[.slice none 0 0] 24)
    obtain ⟨W2, hW2⟩ : ∃ W, W = w1.alloc (.cells #[.slice none 0 0] 24) := ⟨_, rfl⟩
    rw [← hW2] at hb4 hcbk ⊢
    clear hW2 x0 x1 x2 hck
    have hbx2 := (hb4.block _ (lt_of_blk HBX1.out)).trans HBX1.out
    have x0 := cell_of_blk hbx2 0
    have x1 := cell_of_blk hbx2 1
    have x2 := cell_of_blk hbx2 2
    simp at x0 x1 x2
    have hwb := HB.out.size
    have hwb1 := HB3.out.size
    have hsn : Seen W2 w1.heap.size (.slice none 0 0) [] := ⟨hcbk, World.ownsRow_nil _ _ _ _⟩
    have hwk := HWK.out w1.heap.size (by omega) W2 _ _ (HB.out.trans ((HB3.out.trans (hb4.mono hwb1)).mono hwb)) hsn (by simp; omega)
    rw [List.nil_append] at hwk
    have HB4 := Lib.hid hb4
    clear hb4 hcbk hbx2 hsn
    go_upto_region 6 with (go_at_call 59; refine hwk.mono ?_; rintro e w3 ⟨rfl, v3, hsn3, hb5⟩)
    have HB5 := Lib.hid hb5
    have HSN3 := Lib.hid hsn3
    have hsr := sort_int (atomsF F) (w1.heap.size + 1) v3 w3 (by omega) hsn3.own
    have hcb3 : w3.cell? ⟨w1.heap.size, 0, none⟩ = some v3 := (cell_of_blk hsn3.blk 0).trans rfl
    obtain ⟨A3, c3, rfl, _, _⟩ := ownsRow_form hsn3.own
    clear x0 x1 x2 hb5 hsn3 hwk HWK
    have hsl := sortI_len (atomsF F)
    have hai : atomsI F = Lib.compact (sortI (atomsF F)) := rfl
    rw [hai] at hil
    rw [← hsl] at hsr hcb3 HSN3
    have hcm := fun w4 ho => compact_int (sortI (atomsF F)) (w1.heap.size + 1) (.slice A3 (sortI (atomsF F)).length c3) w4 (by omega) ho
    generalize Lib.compact (sortI (atomsF F)) = CI at *
    generalize sortI (atomsF F) = SI at *
    generalize atomsF F = AF at *
    have HCM := Lib.hid hcm
    have HAI := Lib.hid hai
    clear hcm hai hal hsl
    go_upto_region 7 with (go_at_call 61; refine hsr.mono ?_; rintro e w4 ⟨rfl, ho4, hb4⟩)
    have hb34 := hb4 w3 (Below.refl _ _)
    have hcb4 : w4.cell? ⟨w1.heap.size, 0, none⟩ = some (.slice A3 SI.length c3) := (hb34.cell (p := ⟨w1.heap.size, 0, none⟩) (Nat.lt_succ_self _)).trans hcb3
    have hcmp := HCM.out w4 ho4
    have HB34 := Lib.hid hb34
    clear hb34 hb4 ho4 hsr hcb3
    go_wp2_with (go_at_call 62; refine hcmp.mono ?_; rintro e w5 ⟨v5, rfl, ho5, hb5⟩; have hb45 := hb5 w4 (Below.refl _ _); have HO5 := Lib.hid ho5; clear ho5 hb5)
    go_ret2
    exact ⟨_, rfl, by rw [HAI.out]; exact own_more HO5.out (by omega), HB3.out.trans ((((HB4.out.trans HB5.out).trans (HB34.out.mono (Nat.le_succ _))).trans (hb45.mono (Nat.le_succ _))).mono HB3.out.size)⟩
  · rw [if_neg hC]
    have hC' : (checkF F n == 0) = false := by simpa using hC
    generalize checkF F n = C at *
    clear hg h hF
    go_enter Try.func36, Try.ntmps36
    go_wp2_with (go_at_call 39; refine hck.mono ?_; rintro e w1 ⟨rfl, hb2⟩)
    go_ret2
    exact ⟨_, rfl, World.ownsRow_nil _ _ _ _, HB1.out.trans (hb2.mono HB1.out.size)⟩
end Go.Proofs.Ytdpnififbpoagaa
