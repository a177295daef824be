/- Contract of package logic: Eval. And formulas that lie in some blocks alone. -/
import Derived.Test.YtdpnififbpoagaaFmEval2
namespace Go.Proofs.Ytdpnififbpoagaa
open Go.RowKit
set_option linter.unusedVariables false
set_option linter.unusedSimpArgs false

theorem checkF_ok {f : Fm} {n : Int} (h : checkF f n = 0) : shapeF f n = true := by
  unfold checkF at h
  split at h
  · cases h
  · split at h
    · assumption
    · cases h

theorem leval_any {w0 : World} {fs : List Fm} {sv : Value} (h : FIn w0 fs sv) (vals : List Bool) (A2 : Option Addr) (n c2 : Nat) (hn : vals.length = n) (hv : Rd w0 1 A2 n (boolL vals)) (w : World) (k a : Int) (hb : Below w0.heap.size w0 w) :
    Calls Try.prog 24 #[.agg #[.int .i64 k, .int .i64 a, sv], .slice A2 n c2] w fun e w' => e = .returned (.tuple #[.bool (if checkF (.mk k a fs) n = 0 then evalF (.mk k a fs) vals else false), .int .i64 (checkF (.mk k a fs) n)]) ∧ Below w.heap.size w w' := by
  have hb1 : Below w.heap.size w (w.alloc (.cells #[.int .i64 k, .int .i64 a, sv] 48)) := (Below.refl _ _).alloc (Nat.le_refl _) _
  have h1 := check_any h (w.alloc (.cells #[.int .i64 k, .int .i64 a, sv] 48)) k a n (hb.trans (hb1.mono hb.size))
  have h2 := fun W hW hs => eval_fm h vals A2 n c2 hn hv W k a hW hs
  have hok := fun hc => checkF_ok (f := .mk k a fs) (n := n) hc
  obtain ⟨A, c, rfl, _, _⟩ := h.form
  generalize checkF (.mk k a fs) n = C at *
  have HB := Lib.hid hb
  have HB1 := Lib.hid hb1
  by_cases hC : C = 0
  · subst hC
    have h3 := fun W hW => h2 W hW (hok rfl)
    rw [if_pos rfl]
    generalize evalF (.mk k a fs) vals = u at *
    have H2 := Lib.hid h3
    clear h2 h3 hok hb hb1 h hv
    go_enter Try.func24, Try.ntmps24
    go_wp2_with (first | (go_at_call 39; refine h1.mono ?_; rintro e w1 ⟨rfl, hb2⟩; have c0 := (hb2.cell (p := ⟨w.heap.size, 0, none⟩) (by simp)).trans (cell_of_blk (heap_alloc_new w _) 0); have c1 := (hb2.cell (p := ⟨w.heap.size, 1, none⟩) (by simp)).trans (cell_of_blk (heap_alloc_new w _) 1); have c2 := (hb2.cell (p := ⟨w.heap.size, 2, none⟩) (by simp)).trans (cell_of_blk (heap_alloc_new w _) 2); simp at c0 c1 c2; have HB2 := Lib.hid (HB1.out.trans (hb2.mono HB1.out.size)); clear hb2) | (go_at_call 52; refine (H2.out _ (HB.out.trans (HB2.out.mono HB.out.size))).mono ?_; rintro e w2 ⟨rfl, hb3⟩))
    go_ret2
    exact ⟨rfl, HB2.out.trans (hb3.mono HB2.out.size)⟩
  · rw [if_neg hC]
    have hC' : (C == 0) = false := by simpa using hC
    clear h2 hok hb hb1 h hv
    go_enter Try.func24, Try.ntmps24
    go_wp2_with (go_at_call 39; refine h1.mono ?_; rintro e w1 ⟨rfl, hb2⟩)
    go_ret2
    exact ⟨rfl, HB1.out.trans (hb2.mono HB1.out.size)⟩
/-- the parts of a formula, read in the blocks S alone. -/
inductive FOn (S : Nat → Prop) (w : World) : List Fm → Value → Prop
  | mk (A : Option Addr) (n c : Nat) (fs : List Fm) (ss : List Value) (hl : fs.length = n) (hs : ss.length = n) (hnc : n ≤ c) (hc : c ≤ maxLen) (hr : Rd w 3 A n (fCells fs ss))
      (hS : ∀ b o, 0 < n → A = some ⟨b, o, none⟩ → S b)
      (hsub : ∀ (i : Nat) (f : Fm) (s : Value), fs[i]? = some f → ss[i]? = some s → FOn S w f.sub s) : FOn S w fs (.slice A n c)
theorem FOn.fin {S : Nat → Prop} {w : World} {fs : List Fm} {v : Value} (h : FOn S w fs v) : FIn w fs v := by
  induction h with
  | mk A n c fs ss hl hs hnc hc hr hS hsub ih => exact .mk A n c fs ss hl hs hnc hc hr ih
theorem FOn.form {S : Nat → Prop} {w : World} {fs : List Fm} {v : Value} (h : FOn S w fs v) : ∃ A c, v = .slice A fs.length c ∧ fs.length ≤ c ∧ c ≤ maxLen := h.fin.form
theorem FOn.keep {S S' : Nat → Prop} {w w' : World} {fs : List Fm} {v : Value} (h : FOn S w fs v) (hk : ∀ p : Addr, p.block < w.heap.size → S p.block → w'.cell? p = w.cell? p) (hSS : ∀ b, b < w.heap.size → S b → S' b) : FOn S' w' fs v := by
  induction h with
  | mk A n c fs ss hl hs hnc hc hr hS hsub ih =>
    refine .mk A n c fs ss hl hs hnc hc ⟨hr.1, fun h0 => ?_⟩ (fun b o h0 e => ?_) ih
    · obtain ⟨b, off, e, hcell⟩ := hr.2 h0
      exact ⟨b, off, e, fun j u hu => (hk _ (World.block_lt_of_cell? w _ (hcell j u hu)) (hS b off h0 e)).trans (hcell j u hu)⟩
    · exact hSS b (hr.blk h0 (by decide) e) (hS b o h0 e)
theorem FOn.belo {S : Nat → Prop} {w w' : World} {fs : List Fm} {v : Value} (h : FOn S w fs v) (hb : Below w.heap.size w w') : FOn S w' fs v := h.keep (fun _ hp _ => hb.cell hp) (fun _ _ h => h)
theorem FOn.fr {S S' T : Nat → Prop} {w w' : World} {fs : List Fm} {v : Value} (h : FOn S w fs v) (hf : Fr T w w') (hT : ∀ b, S b → ¬ T b) (hSS : ∀ b, b < w.heap.size → S b → S' b) : FOn S' w' fs v :=
  h.keep (fun p hp hs => hf.cell hp (hT _ hs)) hSS
theorem FOn.nil (S : Nat → Prop) (w : World) : FOn S w [] (.slice none 0 0) := .mk none 0 0 [] [] rfl rfl (Nat.le_refl _) (by unfold maxLen; omega) Rd.none_ (fun b o h _ => by omega) (fun i f s h _ => by simp at h)
end Go.Proofs.Ytdpnififbpoagaa
