/- Cnf laws: small. -/
import Derived.Test.YtbcabcdgblmnkaaFmRef
namespace Go.Proofs.Ytbcabcdgblmnkaa
open Go.RowKit
set_option linter.unusedVariables false
set_option linter.unusedSimpArgs false

theorem small18_any {w0 : World} {fs : List Fm} {sv : Value} (h : FIn w0 fs sv) (w : World) (k a : Int) (hb : Below w0.heap.size w0 w) :
    Calls Try.prog 35 #[.agg #[.int .i64 k, .int .i64 a, sv]] w fun e w' => e = .returned (.bool (decide (sizeF (.mk k a fs) ≤ 60))) ∧ Below w.heap.size w w' := by
  have hb1 : Below w.heap.size w (w.alloc (.cells #[.int .i64 k, .int .i64 a, sv] 58)) := (Below.refl _ _).alloc (Nat.le_refl _) _
  have h1 := told_top h (w.alloc (.cells #[.int .i64 k, .int .i64 a, sv] 58)) k a (hb.trans (hb1.mono hb.size))
  have hs := told_small (.mk k a fs) 60 (by omega)
  obtain ⟨A, c, rfl, _, _⟩ := h.form
  generalize toldT (.mk k a fs) = g at *
  have HB1 := Lib.hid hb1
  clear hb hb1 h
  by_cases hd : sizeF (.mk k a fs) ≤ 60
  all_goals
    first | (rw [decide_eq_true hd]; have hn : (nodesF g 60 : Int) ≤ 60 := by have := hs.2 hd; omega) | (rw [decide_eq_false hd]; have hn : ¬ (nodesF g 60 : Int) ≤ 60 := fun h' => hd (hs.1 (by omega)))
    clear hs hd
    go_enter Try.func35, Try.ntmps35
    go_wp2_with (first | (go_at_call 33; refine h1.mono ?_; rintro e w1 ⟨v5, rfl, ⟨sv5, rfl, hfo⟩, hb2⟩; have h3 := nodes_any hfo.fin w1 g.k g.a 60 (Below.refl _ _) (by omega); rw [g.eta] at h3; obtain ⟨A5, c5, rfl, _, _⟩ := hfo.form; have HB2 := Lib.hid (HB1.out.trans (hb2.mono HB1.out.size)); clear hb2 hfo) | (go_at_call 58; refine h3.mono ?_; rintro e w2 ⟨rfl, hb3⟩))
    go_ret
    exact ⟨by first | rfl | (simp; omega), HB2.out.trans (hb3.mono HB2.out.size)⟩
end Go.Proofs.Ytbcabcdgblmnkaa
