/- Contracts of package logic: Check, Size; what eval answers. -/
import Derived.Test.YtbcabcdgblmnkaaFmShape
namespace Go.Proofs.Ytbcabcdgblmnkaa
open Go.RowKit
set_option linter.unusedVariables false
set_option linter.unusedSimpArgs false

def checkF (f : Fm) (n : Int) : Int := if 20000 < countF f 0 1 then 2 else if shapeF f n = true then 0 else 4
theorem check_any {w0 : World} {fs : List Fm} {sv : Value} (h : FIn w0 fs sv) (w : World) (k a n : Int) (hb : Below w0.heap.size w0 w) :
    Calls Try.prog 68 #[.agg #[.int .i64 k, .int .i64 a, sv], .int .i64 n] w fun e w' => e = .returned (.int .i64 (checkF (.mk k a fs) n)) ∧ Below w.heap.size w w' := by
  have hb1 : Below w.heap.size w (w.alloc (.cells #[.int .i64 k, .int .i64 a, sv] 58)) := (Below.refl _ _).alloc (Nat.le_refl _) _
  have h1 := count_any h (w.alloc (.cells #[.int .i64 k, .int .i64 a, sv] 58)) k a 0 1 (hb.trans (hb1.mono hb.size)) (by omega) (by omega)
  have h2 := fun W hW => shaped_any h W k a n hW
  unfold checkF
  obtain ⟨A, c, rfl, _, _⟩ := h.form
  generalize countF (.mk k a fs) 0 1 = C at *
  generalize shapeF (.mk k a fs) n = S at *
  have H2 := Lib.hid h2
  have HB := Lib.hid hb
  have HB1 := Lib.hid hb1
  clear h2 hb hb1 h
  by_cases hC : 20000 < C
  · rw [if_pos hC]
    have hC' : (20000 : Int) < (C : Int) := by omega
    go_enter Try.func68, Try.ntmps68
    go_wp2_with (go_at_call 85; refine h1.mono ?_; rintro e w1 ⟨rfl, hb2⟩)
    go_ret
    exact ⟨rfl, HB1.out.trans (hb2.mono HB1.out.size)⟩
  · rw [if_neg hC]
    have hC' : ¬ (20000 : Int) < (C : Int) := by omega
    cases S with
    | true =>
      rw [if_pos rfl]
      go_enter Try.func68, Try.ntmps68
      go_wp2_with (first | (go_at_call 85; refine h1.mono ?_; rintro e w1 ⟨rfl, hb2⟩; have c0 := (hb2.cell (p := ⟨w.heap.size, 0, none⟩) (by simp)).trans (cell_of_blk (heap_alloc_new w _) 0); have c1 := (hb2.cell (p := ⟨w.heap.size, 1, none⟩) (by simp)).trans (cell_of_blk (heap_alloc_new w _) 1); have c2 := (hb2.cell (p := ⟨w.heap.size, 2, none⟩) (by simp)).trans (cell_of_blk (heap_alloc_new w _) 2); simp at c0 c1 c2; have HB2 := Lib.hid (HB1.out.trans (hb2.mono HB1.out.size)); clear hb2) | (go_at_call 86; refine (H2.out _ (HB.out.trans (HB2.out.mono HB.out.size))).mono ?_; rintro e w2 ⟨rfl, hb3⟩))
      go_ret
      exact ⟨rfl, HB2.out.trans (hb3.mono HB2.out.size)⟩
    | false =>
      rw [if_neg (by simp)]
      go_enter Try.func68, Try.ntmps68
      go_wp2_with (first | (go_at_call 85; refine h1.mono ?_; rintro e w1 ⟨rfl, hb2⟩; have c0 := (hb2.cell (p := ⟨w.heap.size, 0, none⟩) (by simp)).trans (cell_of_blk (heap_alloc_new w _) 0); have c1 := (hb2.cell (p := ⟨w.heap.size, 1, none⟩) (by simp)).trans (cell_of_blk (heap_alloc_new w _) 1); have c2 := (hb2.cell (p := ⟨w.heap.size, 2, none⟩) (by simp)).trans (cell_of_blk (heap_alloc_new w _) 2); simp at c0 c1 c2; have HB2 := Lib.hid (HB1.out.trans (hb2.mono HB1.out.size)); clear hb2) | (go_at_call 86; refine (H2.out _ (HB.out.trans (HB2.out.mono HB.out.size))).mono ?_; rintro e w2 ⟨rfl, hb3⟩))
      go_ret
      exact ⟨rfl, HB2.out.trans (hb3.mono HB2.out.size)⟩
end Go.Proofs.Ytbcabcdgblmnkaa
