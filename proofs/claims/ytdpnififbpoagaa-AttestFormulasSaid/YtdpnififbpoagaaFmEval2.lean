/- Contract of package logic: eval, Eval. -/
import Derived.Test.YtdpnififbpoagaaFmEval
import Derived.Test.YtdpnififbpoagaaRegApp
import Derived.Deep.DeepCutAuto
namespace Go.Proofs.Ytdpnififbpoagaa
open Go.RowKit
set_option linter.unusedVariables false
set_option linter.unusedSimpArgs false


theorem clos69 (k a : Int) (A : Option Addr) (m c : Nat) (b : Nat) (A2 : Option Addr) (n c2 : Nat) (u : Bool) (W : World) (hp : W.cell? ⟨b, 0, none⟩ = some (.slice A2 n c2)) (hlt : b < W.heap.size)
    (hE : Calls Try.prog 52 #[.agg #[.int .i64 k, .int .i64 a, .slice A m c], .slice A2 n c2] (W.alloc (.cells #[.int .i64 k, .int .i64 a, .slice A m c] 48)) fun e w' => e = .returned (.bool u) ∧ Below (W.alloc (.cells #[.int .i64 k, .int .i64 a, .slice A m c] 48)).heap.size (W.alloc (.cells #[.int .i64 k, .int .i64 a, .slice A m c] 48)) w') :
    Calls Try.prog 69 #[.agg #[.int .i64 k, .int .i64 a, .slice A m c], .pointer (some ⟨b, 0, none⟩)] W fun e w' => e = .returned (.bool (!u)) ∧ Below W.heap.size W w' := by
  go_enter Try.func69, Try.ntmps69
  go_wp2_with (go_at_call 52; refine hE.mono ?_; rintro e w1 ⟨rfl, hb⟩)
  go_ret
  exact ⟨rfl, ((Below.refl _ _).alloc (Nat.le_refl _) _).trans (hb.mono (by simp))⟩
theorem clos70 (k a : Int) (A : Option Addr) (m c : Nat) (b : Nat) (A2 : Option Addr) (n c2 : Nat) (u : Bool) (W : World) (hp : W.cell? ⟨b, 0, none⟩ = some (.slice A2 n c2)) (hlt : b < W.heap.size)
    (hE : Calls Try.prog 52 #[.agg #[.int .i64 k, .int .i64 a, .slice A m c], .slice A2 n c2] (W.alloc (.cells #[.int .i64 k, .int .i64 a, .slice A m c] 48)) fun e w' => e = .returned (.bool u) ∧ Below (W.alloc (.cells #[.int .i64 k, .int .i64 a, .slice A m c] 48)).heap.size (W.alloc (.cells #[.int .i64 k, .int .i64 a, .slice A m c] 48)) w') :
    Calls Try.prog 70 #[.agg #[.int .i64 k, .int .i64 a, .slice A m c], .pointer (some ⟨b, 0, none⟩)] W fun e w' => e = .returned (.bool u) ∧ Below W.heap.size W w' := by
  go_enter Try.func70, Try.ntmps70
  go_wp2_with (go_at_call 52; refine hE.mono ?_; rintro e w1 ⟨rfl, hb⟩)
  go_ret
  exact ⟨rfl, ((Below.refl _ _).alloc (Nat.le_refl _) _).trans (hb.mono (by simp))⟩

set_option maxRecDepth 100000 in
set_option maxHeartbeats 4000000 in
theorem eval_fm {w0 : World} {fs : List Fm} {sv : Value} (h : FIn w0 fs sv) (vals : List Bool) (A2 : Option Addr) (n c2 : Nat) (hn : vals.length = n) (hv : Rd w0 1 A2 n (boolL vals)) : ∀ (w : World) (k a : Int), Below w0.heap.size w0 w → shapeF (.mk k a fs) n = true →
    Calls Try.prog 52 #[.agg #[.int .i64 k, .int .i64 a, sv], .slice A2 n c2] w fun e w' => e = .returned (.bool (evalF (.mk k a fs) vals)) ∧ Below w.heap.size w w' := by
  induction h with
  | mk A m c fs ss hl hs hnc hc hr hsub ih =>
    intro w k a hb hsh
    rw [shapeF, hl] at hsh
    rw [evalF]
    have h01 : Below w0.heap.size w0 (w.alloc (.cells #[.int .i64 k, .int .i64 a, .slice A m c] 48)) := hb.alloc hb.size _
    have h02 : Below w0.heap.size w0 ((w.alloc (.cells #[.int .i64 k, .int .i64 a, .slice A m c] 48)).alloc (.cells #[.slice A2 n c2] 37)) := h01.alloc h01.size _
    have hbox : ((w.alloc (.cells #[.int .i64 k, .int .i64 a, .slice A m c] 48)).alloc (.cells #[.slice A2 n c2] 37)).cell? ⟨w.heap.size + 1, 0, none⟩ = some (.slice A2 n c2) := by
      simp
    have b2 : Below w.heap.size w ((w.alloc (.cells #[.int .i64 k, .int .i64 a, .slice A m c] 48)).alloc (.cells #[.slice A2 n c2] 37)) := ((Below.refl _ _).alloc (Nat.le_refl _) _).alloc (by simp) _
    have HIH := Lib.hid ih
    have hfm : ∀ (i : Nat) (s : Value), ss[i]? = some s → ∃ A n c, s = .slice A n c := fun i s hi => by
      have hlt := (List.getElem?_eq_some_iff.1 hi).1
      obtain ⟨A', c', e, _⟩ := (hsub i _ s (List.getElem?_eq_getElem (by omega)) hi).form
      exact ⟨A', _, c', e⟩
    have HSUB := Lib.hid hfm
    clear ih hsub hfm
    by_cases k1 : k = 1
    · subst k1
      rw [if_pos rfl] at hsh ⊢
      simp only [Bool.and_eq_true, decide_eq_true_eq] at hsh
      obtain ⟨ha, han, hm⟩ := hsh
      subst hm
      obtain ⟨x, rfl⟩ : ∃ x : Nat, a = x := ⟨a.toNat, by omega⟩
      have hxn : x < n := by omega
      obtain ⟨b5, o5, u, rfl, hu, hc5⟩ := (hv.below hb).at_ hxn
      have hb5 : b5 < w.heap.size := World.block_lt_of_cell? _ _ hc5
      have hx : vals[x]? = some (vals.getD x false) := by rw [List.getD_eq_getElem?_getD, List.getElem?_eq_getElem (by omega)]; rfl
      simp only [boolL, List.getElem?_map, hx, Option.map_some, Option.some.injEq] at hu
      subst hu
      rw [Int.toNat_natCast]
      generalize vals.getD x false = y at *
      have HB2 := Lib.hid b2
      clear hx hv hr HIH HSUB h01 h02 hbox b2
      go_enter Try.func52, Try.ntmps52
      go_wp2_with fail
      go_ret
      exact ⟨rfl, HB2.out⟩
    rw [if_neg k1] at hsh ⊢
    by_cases k5 : k = 5 ∨ k = 6
    · have k2 : ¬ k = 2 := by omega
      have k3 : ¬ k = 3 := by omega
      have k4 : ¬ k = 4 := by omega
      rw [if_neg k2, if_neg k3, if_neg k4]
      have HB2 := Lib.hid b2
      clear hv hr HIH HSUB h01 h02 hbox b2 hsh
      rcases k5 with rfl | rfl
      · go_enter Try.func52, Try.ntmps52
        go_wp2_with fail
        go_ret
        exact ⟨rfl, HB2.out⟩
      · go_enter Try.func52, Try.ntmps52
        go_wp2_with fail
        go_ret
        exact ⟨rfl, HB2.out⟩
    rw [if_neg k5] at hsh
    by_cases k2 : k = 2
    · subst k2
      rw [if_pos rfl] at hsh ⊢
      simp only [Bool.and_eq_true, decide_eq_true_eq] at hsh
      obtain ⟨hm, hsh⟩ := hsh
      subst hm
      obtain ⟨f, rfl⟩ : ∃ f, fs = [f] := List.length_eq_one_iff.1 hl
      obtain ⟨s, rfl⟩ : ∃ s, ss = [s] := List.length_eq_one_iff.1 hs
      obtain ⟨b, off, rfl, x0, x1, x2, hbs⟩ := (hr.below h02).f3 0 (by omega) (f := f) (s := s) rfl rfl
      simp only [Nat.zero_mul, Nat.add_zero] at x0 x1 x2
      obtain ⟨A', n', c', rfl⟩ := HSUB.out 0 s rfl
      have hE := fun W (hW : Below w0.heap.size w0 W) => HIH.out 0 f _ rfl rfl W f.k f.a hW (by rw [f.eta]; exact shapeL_get [f] n hsh 0 f rfl)
      rw [f.eta] at hE
      rw [evalN]
      generalize evalF f vals = u at *
      obtain ⟨W, hW⟩ : ∃ W, W = (w.alloc (.cells #[.int .i64 2, .int .i64 a, .slice (some ⟨b, off, none⟩) 1 c] 48)).alloc (.cells #[.slice A2 n c2] 37) := ⟨_, rfl⟩
      have c2' : W.cell? ⟨w.heap.size, 2, none⟩ = some (.slice (some ⟨b, off, none⟩) 1 c) := by rw [hW]; simp
      rw [← hW] at x0 x1 x2 h02 hbox b2
      have HE := Lib.hid hE
      have HB2 := Lib.hid b2
      have H02 := Lib.hid h02
      clear hv hr HIH HSUB h01 h02 b2 hE
      have HX := Lib.hid (And.intro x0 (And.intro x1 (And.intro x2 (And.intro hbox c2'))))
      clear x0 x1 x2 hbox c2'
      go_enter Try.func52, Try.ntmps52
      go_upto_region 5 with fail
      rw [← hW]
      obtain ⟨x0, x1, x2, x3, x4⟩ := HX.out
      clear hW HX
      go_still_tail 5, (by kernel_rfl)
      change wpList _ _ _ _ _ W.drew
      go_wp2_with (go_at_call 52; refine (HE.out _ (below_drewA H02.out)).mono ?_; rintro e w1 ⟨rfl, hb1⟩)
      go_ret
      exact ⟨rfl, HB2.out.trans ((below_drew' hb1).mono HB2.out.size)⟩
    rw [if_neg k2] at hsh ⊢
    by_cases k3 : k = 3
    · subst k3
      rw [if_pos (.inl rfl)] at hsh
      rw [if_pos rfl, evalA_any]
      have hany := contains69 fs ss A m c (fun f => !(evalF f vals)) ⟨w.heap.size + 1, 0, none⟩ ((w.alloc (.cells #[.int .i64 3, .int .i64 a, .slice A m c] 48)).alloc (.cells #[.slice A2 n c2] 37)) hl hs (Nat.le_trans hnc hc) (hr.below h02) (fun i s hi => HSUB.out i s hi) (fun i f s hf hss W hW => by
        have h0W : Below w0.heap.size w0 W := h02.trans (hW.mono h02.size)
        obtain ⟨A', n', c', rfl⟩ := HSUB.out i s hss
        have hp : W.cell? ⟨w.heap.size + 1, 0, none⟩ = some (.slice A2 n c2) := (hW.cell (p := ⟨w.heap.size + 1, 0, none⟩) (by simp)).trans hbox
        have hE := HIH.out i f _ hf hss (W.alloc (.cells #[.int .i64 f.k, .int .i64 f.a, .slice A' n' c'] 48)) f.k f.a (h0W.alloc h0W.size _) (by rw [f.eta]; exact shapeL_get fs n hsh i f hf)
        rw [f.eta] at hE
        have := hW.size
        exact clos69 f.k f.a A' n' c' (w.heap.size + 1) A2 n c2 (evalF f vals) W hp (by simp at this; omega) hE)
      generalize (fs.any fun f => !(evalF f vals)) = u at *
      have HB2 := Lib.hid b2
      clear hv hr HIH HSUB h01 h02 hbox b2 hsh
      go_enter Try.func52, Try.ntmps52
      go_wp2_with (go_at_call 68; refine hany.mono ?_; rintro e w1 ⟨rfl, hb1⟩)
      go_ret
      exact ⟨rfl, HB2.out.trans (hb1.mono HB2.out.size)⟩
    rw [if_neg k3]
    by_cases k4 : k = 4
    · subst k4
      rw [if_pos (.inr rfl)] at hsh
      rw [if_pos rfl, evalO_any]
      have hany := contains70 fs ss A m c (fun f => evalF f vals) ⟨w.heap.size + 1, 0, none⟩ ((w.alloc (.cells #[.int .i64 4, .int .i64 a, .slice A m c] 48)).alloc (.cells #[.slice A2 n c2] 37)) hl hs (Nat.le_trans hnc hc) (hr.below h02) (fun i s hi => HSUB.out i s hi) (fun i f s hf hss W hW => by
        have h0W : Below w0.heap.size w0 W := h02.trans (hW.mono h02.size)
        obtain ⟨A', n', c', rfl⟩ := HSUB.out i s hss
        have hp : W.cell? ⟨w.heap.size + 1, 0, none⟩ = some (.slice A2 n c2) := (hW.cell (p := ⟨w.heap.size + 1, 0, none⟩) (by simp)).trans hbox
        have hE := HIH.out i f _ hf hss (W.alloc (.cells #[.int .i64 f.k, .int .i64 f.a, .slice A' n' c'] 48)) f.k f.a (h0W.alloc h0W.size _) (by rw [f.eta]; exact shapeL_get fs n hsh i f hf)
        rw [f.eta] at hE
        have := hW.size
        exact clos70 f.k f.a A' n' c' (w.heap.size + 1) A2 n c2 (evalF f vals) W hp (by simp at this; omega) hE)
      generalize (fs.any fun f => evalF f vals) = u at *
      have HB2 := Lib.hid b2
      clear hv hr HIH HSUB h01 h02 hbox b2 hsh
      go_enter Try.func52, Try.ntmps52
      go_wp2_with (go_at_call 68; refine hany.mono ?_; rintro e w1 ⟨rfl, hb1⟩)
      go_ret
      exact ⟨rfl, HB2.out.trans (hb1.mono HB2.out.size)⟩
    · simp only [k3, k4, or_self, if_false] at hsh
      cases hsh
end Go.Proofs.Ytdpnififbpoagaa
