/- Contract of package logic: Nnf. -/
import Derived.Test.YtdpnififbpoagaaFmMath
namespace Go.Proofs.Ytdpnififbpoagaa
open Go.RowKit
set_option linter.unusedVariables false
set_option linter.unusedSimpArgs false

theorem lnnf_any {w0 : World} {fs : List Fm} {sv : Value} (h : FIn w0 fs sv) (w : World) (k a n : Int) (hb : Below w0.heap.size w0 w) :
    Calls Try.prog 28 #[.agg #[.int .i64 k, .int .i64 a, sv], .int .i64 n] w fun e w' => ∃ v, e = .returned (.tuple #[v, .int .i64 (checkF (.mk k a fs) n)]) ∧ FRes w.heap.size w' (if checkF (.mk k a fs) n = 0 then nnfF (.mk k a fs) false else .mk 0 0 []) v ∧ Below w.heap.size w w' := by
  have b1 : Below w.heap.size w (((w.alloc (.cells #[.int .i64 k, .int .i64 a, sv] 48)).alloc (.cells #[.int .i64 0, .int .i64 0, .slice none 0 0] 48))) := (((Below.refl _ _).alloc (Nat.le_refl _) _).alloc (by simp) _)
  have h1 := check_any h ((w.alloc (.cells #[.int .i64 k, .int .i64 a, sv] 48)).alloc (.cells #[.int .i64 0, .int .i64 0, .slice none 0 0] 48)) k a n (hb.trans (b1.mono hb.size))
  have h2 := fun W hW hs hf => nnf_fm h n W k a false hW hf hs
  have hok := fun hc => checkF_great (f := .mk k a fs) (n := n) hc
  have hz := new_at (w.alloc (.cells #[.int .i64 k, .int .i64 a, sv] 48)) (.cells #[.int .i64 0, .int .i64 0, .slice none 0 0] 48) (w.heap.size + 1) (by simp)
  have hx := (alloc_old (w := w.alloc (.cells #[.int .i64 k, .int .i64 a, sv] 48)) (g := w.heap.size) (.cells #[.int .i64 0, .int .i64 0, .slice none 0 0] 48) (by simp)).trans (heap_alloc_new w _)
  obtain ⟨A, c, rfl, _, _⟩ := h.form
  generalize checkF (.mk k a fs) n = C at *
  have HB := Lib.hid hb
  have B1 := Lib.hid b1
  have HZ := Lib.hid hz
  have HX := Lib.hid hx
  by_cases hC : C = 0
  · subst hC
    have h3 := fun W hW => h2 W hW (hok rfl).2 (fits_f (.mk k a fs) (by have := great_size (hok rfl).1; omega))
    rw [if_pos rfl]
    generalize nnfF (.mk k a fs) false = g at *
    have H2 := Lib.hid h3
    clear h2 h3 hok hb b1 h hz hx
    go_enter Try.func28, Try.ntmps28
    go_wp2_with (first | (go_at_call 39; refine h1.mono ?_; rintro e w1 ⟨rfl, hb2⟩; have hx2 := (hb2.block w.heap.size (by simp; omega)).trans HX.out; have c0 := cell_of_blk hx2 0; have c1 := cell_of_blk hx2 1; have c2 := cell_of_blk hx2 2; simp at c0 c1 c2; have HZ2 := Lib.hid ((hb2.block (w.heap.size + 1) (by simp)).trans HZ.out); have HB2 := Lib.hid (B1.out.trans (hb2.mono B1.out.size)); have hs2 : w.heap.size + 1 + 1 ≤ w1.heap.size := (by have := hb2.size; simpa using this); clear hb2 hx2 h1) | (go_at_call 56; refine (H2.out _ (HB.out.trans (HB2.out.mono HB.out.size))).mono ?_; rintro e w3 ⟨v5, rfl, ⟨sv5, rfl, hfo⟩, hb3⟩; obtain ⟨A5, c5, rfl, _, _⟩ := hfo.form; have hz6 := (hb3.block (w.heap.size + 1) (by omega)).trans HZ2.out; have q0 := cell_of_blk hz6 0; have q1 := cell_of_blk hz6 1; have q2 := cell_of_blk hz6 2; have p0 := frozen_of_blk hz6 0; have p1 := frozen_of_blk hz6 1; have p2 := frozen_of_blk hz6 2; have HF6 := Lib.hid hfo; have HB6 := Lib.hid (HB2.out.trans (hb3.mono HB2.out.size)); simp at q0 q1 q2; clear hfo hb3 hz6))
    refine bodyPost_ret (v := .tuple #[.agg #[.int .i64 g.k, .int .i64 g.a, .slice A5 g.sub.length c5], .int .i64 0]) (by simp [results, Try.results28, go_sem, q0, q1, q2]) rfl ?_
    have hf3 := fr_set3 w3 (w.heap.size + 1) (.int .i64 g.k) (.int .i64 g.a) (.slice A5 g.sub.length c5)
    exact ⟨_, rfl, ⟨_, rfl, HF6.out.fr hf3 (fun b hS e => by omega) (fun b _ hS => by omega)⟩, HB6.out.trans (hf3.below HB6.out.size (fun b e => by omega))⟩
  · rw [if_neg hC]
    have hC' : (C == 0) = false := by simpa using hC
    clear h2 hok hb b1 h hz hx
    go_enter Try.func28, Try.ntmps28
    go_wp2_with (go_at_call 39; refine h1.mono ?_; rintro e w1 ⟨rfl, hb2⟩; have hz6 := (hb2.block (w.heap.size + 1) (by simp)).trans HZ.out; have q0 := cell_of_blk hz6 0; have q1 := cell_of_blk hz6 1; have q2 := cell_of_blk hz6 2; have p0 := frozen_of_blk hz6 0; have p1 := frozen_of_blk hz6 1; have p2 := frozen_of_blk hz6 2; have HB6 := Lib.hid (B1.out.trans (hb2.mono B1.out.size)); simp at q0 q1 q2; clear hb2 hz6)
    refine bodyPost_ret (v := .tuple #[.agg #[.int .i64 0, .int .i64 0, .slice none 0 0], .int .i64 C]) (by simp [results, Try.results28, go_sem, q0, q1, q2]) rfl ?_
    have hf3 := fr_set3 w1 (w.heap.size + 1) (.int .i64 0) (.int .i64 0) (.slice none 0 0)
    exact ⟨_, rfl, ⟨_, rfl, FOn.nil _ _⟩, HB6.out.trans (hf3.below HB6.out.size (fun b e => by omega))⟩
end Go.Proofs.Ytdpnififbpoagaa
