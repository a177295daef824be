/- Contract of the law's copy of a formula: Told. -/
import Derived.Test.YtdpnififbpoagaaFmTold
namespace Go.Proofs.Ytdpnififbpoagaa
open Go.RowKit
set_option linter.unusedVariables false
set_option linter.unusedSimpArgs false

theorem fres_fr {B X : Nat} {w : World} {g : Fm} {A : Option Addr} {c : Nat} (h : FOn (fun b => B ≤ b) w g.sub (.slice A g.sub.length c)) (hX : X < B) (a b d : Value) :
    FOn (fun b => B ≤ b) (((w.setCell ⟨X, 0, none⟩ a).setCell ⟨X, 1, none⟩ b).setCell ⟨X, 2, none⟩ d) g.sub (.slice A g.sub.length c) :=
  h.fr (fr_set3 w X a b d) (fun b hS e => by omega) (fun b _ hS => hS)
set_option maxRecDepth 100000 in
theorem told_top {w0 : World} {fs : List Fm} {sv : Value} (h : FIn w0 fs sv) (w : World) (k a : Int) (hb : Below w0.heap.size w0 w) :
    Calls Try.prog 27 #[.agg #[.int .i64 k, .int .i64 a, sv]] w fun e w' => ∃ v, e = .returned v ∧ FRes w.heap.size w' (toldT (.mk k a fs)) v ∧ Below w.heap.size w w' := by
  have b1 : Below w.heap.size w (((w.alloc (.cells #[.int .i64 k, .int .i64 a, sv] 48)).alloc (.cells #[.int .i64 0, .int .i64 0, .slice none 0 0] 57))) := (((Below.refl _ _).alloc (Nat.le_refl _) _).alloc (by simp) _)
  have h1 := told_any h _ k a 20002 (hb.trans (b1.mono hb.size)) (by omega) (by omega)
  obtain ⟨A, c, rfl, _, _⟩ := h.form
  unfold toldT
  generalize toldF (.mk k a fs) 20002 = g at *
  obtain ⟨g, t⟩ := g
  have hz := new_at (w.alloc (.cells #[.int .i64 k, .int .i64 a, .slice A fs.length c] 48)) (.cells #[.int .i64 0, .int .i64 0, .slice none 0 0] 57) (w.heap.size + 1) (by simp)
  have HZ := Lib.hid hz
  have B1 := Lib.hid b1
  clear hb h b1 hz
  go_enter Try.func27, Try.ntmps27
  go_upto_region 2 with (go_at_call 55; refine h1.mono ?_; rintro e w5 ⟨v5, rfl, ⟨sv5, rfl, hfo⟩, hb5⟩; obtain ⟨A5, c5, rfl, _, _⟩ := hfo.form; have hz5 := (hb5.block (w.heap.size + 1) (by simp)).trans HZ.out; have hs5 : w.heap.size + 1 + 1 ≤ w5.heap.size := (by have := hb5.size; simpa using this); have HFO := Lib.hid hfo; have HB5 := Lib.hid (B1.out.trans (hb5.mono B1.out.size)); have HZ5 := Lib.hid hz5; clear hfo hb5 hz5)
  have hz6 := (alloc_old (.cells #[.int .i64 g.k, .int .i64 g.a, .slice A5 g.sub.length c5] 57) (by omega)).trans HZ5.out
  have hg6 := heap_alloc_new w5 (.cells #[.int .i64 g.k, .int .i64 g.a, .slice A5 g.sub.length c5] 57)
  have hb6 := HB5.out.alloc HB5.out.size (.cells #[.int .i64 g.k, .int .i64 g.a, .slice A5 g.sub.length c5] 57)
  have hf6 := HFO.out.belo ((Below.refl w5.heap.size w5).alloc (Nat.le_refl _) (.cells #[.int .i64 g.k, .int .i64 g.a, .slice A5 g.sub.length c5] 57))
  obtain ⟨W, hW⟩ : ∃ W, W = w5.alloc (.cells #[.int .i64 g.k, .int .i64 g.a, .slice A5 g.sub.length c5] 57) := ⟨_, rfl⟩
  rw [← hW] at hz6 hg6 hb6 hf6 ⊢
  clear hW
  have q0 := cell_of_blk hz6 0
  have q1 := cell_of_blk hz6 1
  have q2 := cell_of_blk hz6 2
  have p0 := frozen_of_blk hz6 0
  have p1 := frozen_of_blk hz6 1
  have p2 := frozen_of_blk hz6 2
  have x0 := cell_of_blk hg6 0
  have x1 := cell_of_blk hg6 1
  have x2 := cell_of_blk hg6 2
  simp at q0 q1 q2 x0 x1 x2
  have HF6 := Lib.hid hf6
  have HB6 := Lib.hid hb6
  have HG6 := Lib.hid hg6
  have HZ6 := Lib.hid hz6
  clear hf6 hb6 hg6 hz6
  go_wp2_with fail
  refine bodyPost_ret (v := .agg #[.int .i64 g.k, .int .i64 g.a, .slice A5 g.sub.length c5]) (by simp [results, Try.results27, go_sem, q0, q1, q2]) rfl ?_
  have hf3 := fr_set3 W (w.heap.size + 1) (.int .i64 g.k) (.int .i64 g.a) (.slice A5 g.sub.length c5)
  exact ⟨_, rfl, ⟨_, rfl, HF6.out.fr hf3 (fun b hS e => by simp at hS; omega) (fun b _ hS => by simp at hS; omega)⟩, HB6.out.trans (hf3.below HB6.out.size (fun b e => by omega))⟩
end Go.Proofs.Ytdpnififbpoagaa
