/- Contract of package logic: count. -/
import Derived.Test.YtbcabcdgblmnkaaFm
namespace Go.Proofs.Ytbcabcdgblmnkaa
open Go.RowKit
set_option linter.unusedVariables false
set_option linter.unusedSimpArgs false

mutual
theorem countF_le (f : Fm) (n d : Nat) (h : n ≤ 20000) : countF f n d ≤ 20001 := by
  cases f with
  | mk k a sub =>
    rw [countF]
    split
    · exact Nat.le_refl _
    · exact countL_le sub (n + 1) d (by omega)
theorem countL_le (fs : List Fm) (n d : Nat) (h : n ≤ 20001) : countL fs n d ≤ 20001 := by
  cases fs with
  | nil => rw [countL]; exact h
  | cons f fs =>
    rw [countL]
    split
    · exact h
    · exact countL_le fs _ d (countF_le f n (d + 1) (by omega))
end

theorem Rd.f3 {w : World} {A : Option Addr} {n : Nat} {fs : List Fm} {ss : List Value} (h : Rd w 3 A n (fCells fs ss)) (i : Nat) (hi : i < n) {f : Fm} {s : Value} (hf : fs[i]? = some f) (hs : ss[i]? = some s) :
    ∃ b off, A = some ⟨b, off, none⟩ ∧ w.cell? ⟨b, off + i * 3, none⟩ = some (.int .i64 f.k) ∧ w.cell? ⟨b, off + i * 3 + 1, none⟩ = some (.int .i64 f.a) ∧ w.cell? ⟨b, off + i * 3 + 2, none⟩ = some s ∧ b < w.heap.size := by
  obtain ⟨b, off, e, hc⟩ := h.2 (by omega)
  obtain ⟨h1, h2, h3⟩ := fCells_get fs ss i f s hf hs
  exact ⟨b, off, e, hc _ _ h1, hc _ _ h2, hc _ _ h3, World.block_lt_of_cell? w _ (hc _ _ h1)⟩
theorem drop_cons {α : Type} (l : List α) (i : Nat) (x : α) (h : l[i]? = some x) : l.drop i = x :: l.drop (i + 1) := by
  obtain ⟨hi, e⟩ := List.getElem?_eq_some_iff.1 h
  rw [List.drop_eq_getElem_cons hi, e]

set_option maxRecDepth 100000 in
set_option maxHeartbeats 4000000 in
theorem count_any {w0 : World} {fs : List Fm} {sv : Value} (h : FIn w0 fs sv) : ∀ (w : World) (k a : Int) (n d : Nat), Below w0.heap.size w0 w → n ≤ 20000 → d ≤ 201 →
    Calls Try.prog 85 #[.agg #[.int .i64 k, .int .i64 a, sv], .int .i64 (n : Int), .int .i64 (d : Int)] w fun e w' => e = .returned (.int .i64 (countF (.mk k a fs) n d : Nat)) ∧ Below w.heap.size w w' := by
  induction h with
  | mk A m c fs ss hl hs hnc hc hr hsub ih =>
    intro w k a n d hb hn hd
    rw [countF]
    by_cases h200 : 200 < d
    · rw [if_pos h200]
      have h200' : (200 : Int) < (d : Int) := by omega
      clear ih hr hsub
      go_enter Try.func85, Try.ntmps85
      go_wp2_with fail
      go_ret
      exact ⟨rfl, (Below.refl _ _).alloc (Nat.le_refl _) _⟩
    · rw [if_neg h200]
      have h200' : ¬ (200 : Int) < (d : Int) := by omega
      unfold maxLen at hc
      generalize hC : countL fs (n + 1) d = C
      have HIH := Lib.hid ih
      have HSUB := Lib.hid hsub
      have HR := Lib.hid hr
      have HC := Lib.hid hC
      have HB0 := Lib.hid hb
      clear ih hr hsub hC hb
      go_enter Try.func85, Try.ntmps85
      go_wp2_with fail
      go_loopw [1, 16] (fun y x wr => ∃ (i t : Nat), i ≤ m ∧ x = .int .i64 i ∧ y = .int .i64 t ∧ t ≤ 20001 ∧ countL (fs.drop i) t d = C ∧ Below w.heap.size w wr) (fun _ x _ => m - (intOf x).toNat)
      case atStart => exact ⟨0, n + 1, Nat.zero_le _, rfl, by go_num, by omega, by simpa using HC.out, (Below.refl _ _).alloc (Nat.le_refl _) _⟩
      case round =>
        obtain ⟨i, t, hi, rfl, rfl, ht, hC, hbk⟩ := hrel
        by_cases hlt : i < m
        · have hf : fs[i]? = some fs[i] := List.getElem?_eq_getElem (by omega)
          have hss : ss[i]? = some ss[i] := List.getElem?_eq_getElem (by omega)
          have h0r : Below w0.heap.size w0 wr := HB0.out.trans (hbk.mono HB0.out.size)
          obtain ⟨b, off, rfl, x0, x1, x2, hbs⟩ := (HR.out.below h0r).f3 i hlt hf hss
          rw [drop_cons fs i _ hf, countL] at hC
          generalize fs[i] = f at *
          generalize ss[i] = s at *
          obtain ⟨A', c', rfl, _, _⟩ := (HSUB.out i f s hf hss).form
          by_cases htt : 20000 < t
          · rw [if_pos htt] at hC
            have htt' : (20000 : Int) < (t : Int) := by omega
            subst hC
            have HB := Lib.hid hbk
            clear hbk hf hss HIH h0r
            go_wp2_with fail
            go_ret
            exact ⟨rfl, HB.out.alloc HB.out.size _⟩
          · rw [if_neg htt] at hC
            have htt' : ¬ (20000 : Int) < (t : Int) := by omega
            have hcall := HIH.out i f _ hf hss (wr.alloc (.cells #[.int .i64 f.k, .int .i64 f.a, .slice A' f.sub.length c'] 58)) f.k f.a t (d + 1) (h0r.alloc h0r.size _) (by omega) (by omega)
            rw [f.eta, show ((d + 1 : Nat) : Int) = (d : Int) + 1 by omega] at hcall
            have hle := countF_le f t (d + 1) (by omega)
            generalize countF f t (d + 1) = u at *
            have HCALL := Lib.hid hcall
            have HB := Lib.hid hbk
            have HCC := Lib.hid hC
            clear hcall hbk hC hf hss h0r
            go_wp2_with (go_at_call 85; refine HCALL.out.mono ?_; rintro e w3 ⟨rfl, hb3⟩)
            go_roundw
            case rel => exact ⟨i + 1, u, by omega, by go_num, rfl, hle, HCC.out, (HB.out.alloc HB.out.size _).trans (hb3.mono (by have := HB.out.size; simp; omega))⟩
            case measure => simp [intOf]; omega
        · obtain rfl : i = m := by omega
          rw [List.drop_of_length_le (by omega), countL] at hC
          subst hC
          go_wp2_with fail
          go_ret
          exact ⟨rfl, hbk⟩
end Go.Proofs.Ytbcabcdgblmnkaa
