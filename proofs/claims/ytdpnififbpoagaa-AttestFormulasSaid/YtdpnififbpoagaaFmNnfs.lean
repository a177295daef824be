/- The law LogicNnfs. -/
import Derived.Test.YtdpnififbpoagaaFmRNnf
import Derived.Test.YtdpnififbpoagaaFmNnfMath
import Derived.Deep.RegionHeld3
import Derived.Deep.DeepCutAuto
namespace Go.Proofs.Ytdpnififbpoagaa
open Go.RowKit
set_option linter.unusedVariables false
set_option linter.unusedSimpArgs false

theorem bstep {w W W1 : World} (h : Below w.heap.size w W) (h' : Below W.heap.size W W1) : Below w.heap.size w W1 := h.trans (h'.mono h.size)
set_option maxRecDepth 100000 in
set_option maxHeartbeats 4000000 in
theorem nnfs_law {w : World} (k a : Int) (fs : List Fm) (sv : Value) (h : FIn w fs sv) (n : Int) (hn : (Lit.int .i64 n).wf = true) :
    Calls Try.prog 8 #[.agg #[.int .i64 k, .int .i64 a, sv], .int .i64 n] w fun e w' => e = .returned (.bool true) ∧ Below w.heap.size w w' := by
  have hb0 : Below w.heap.size w (w.alloc (.cells #[.int .i64 k, .int .i64 a, sv] 48)) := (Below.refl _ _).alloc (Nat.le_refl _) _
  have hbox := heap_alloc_new w (.cells #[.int .i64 k, .int .i64 a, sv] 48)
  have hnf := lnnf_any h (w.alloc (.cells #[.int .i64 k, .int .i64 a, sv] 48)) k a n hb0
  have htd := fun W hW => told_top h W k a hW
  have hsm := fun W hW => small_any h W k a hW
  have haw := fawake_any
  have htc := told_check (.mk k a fs) n
  have hpl : checkF (.mk k a fs) n = 0 → sizeF (.mk k a fs) ≤ 400 → toldT (.mk k a fs) = .mk k a fs ∧ toldT (nnfF (.mk k a fs) false) = nnfF (.mk k a fs) false ∧ shapeF (.mk k a fs) n = true := fun h0 h1 => by
    refine ⟨toldT_same _ (by omega), toldT_same _ ?_, (checkF_great h0).2⟩
    have := nnf_size (.mk k a fs) false
    omega
  obtain ⟨A, c, rfl, _, _⟩ := h.form
  generalize hgT : toldT (.mk k a fs) = tf at *
  generalize hgg : (if checkF (.mk k a fs) n = 0 then nnfF (.mk k a fs) false else .mk 0 0 []) = g at *
  generalize hgC : checkF (.mk k a fs) n = C at *
  have HBOX := Lib.hid hbox
  have HNF := Lib.hid hnf
  have HTD := Lib.hid htd
  have HSM := Lib.hid hsm
  have HAW := Lib.hid haw
  have HTC := Lib.hid htc
  have HPL := Lib.hid hpl
  have HGG := Lib.hid hgg
  have HGT := Lib.hid hgT
  have HB0 := Lib.hid hb0
  clear hnf htd hsm haw htc hpl hgg hgT hgC hbox hb0 h
  go_enter Try.func8, Try.ntmps8
  go_upto_region 2 with (go_at_call 28; refine HNF.out.mono ?_; rintro e w1 ⟨v1, rfl, ⟨sv1, rfl, hfo⟩, hx⟩; have hfi := hfo.fin; obtain ⟨A1, c1, rfl, _, _⟩ := hfi.form; have HFI := Lib.hid hfi; have hb1 := bstep HB0.out hx; have hbox1 := (hx.block w.heap.size (by simp)).trans HBOX.out; clear hfo hfi hx)
  have hfi1 := HFI.out.at_ ((Below.refl w1.heap.size w1).alloc (Nat.le_refl _) (.cells #[.int .i64 g.k, .int .i64 g.a, .slice A1 g.sub.length c1] 48))
  have hb2 := hb1.alloc hb1.size (.cells #[.int .i64 g.k, .int .i64 g.a, .slice A1 g.sub.length c1] 48)
  have hg1 := heap_alloc_new w1 (.cells #[.int .i64 g.k, .int .i64 g.a, .slice A1 g.sub.length c1] 48)
  have hbox2 := (alloc_old (.cells #[.int .i64 g.k, .int .i64 g.a, .slice A1 g.sub.length c1] 48) (lt_of_blk hbox1)).trans hbox1
  obtain ⟨W, hW⟩ : ∃ W, W = w1.alloc (.cells #[.int .i64 g.k, .int .i64 g.a, .slice A1 g.sub.length c1] 48) := ⟨_, rfl⟩
  rw [← hW] at hfi1 hb2 hg1 hbox2 ⊢
  clear hW hb1 hbox1
  have hcs : ∀ W', Below W.heap.size W W' → W'.cell? ⟨w.heap.size, 0, none⟩ = some (.int .i64 k) ∧ W'.cell? ⟨w.heap.size, 1, none⟩ = some (.int .i64 a) ∧ W'.cell? ⟨w.heap.size, 2, none⟩ = some (.slice A fs.length c) ∧
      W'.cell? ⟨w1.heap.size, 0, none⟩ = some (.int .i64 g.k) ∧ W'.cell? ⟨w1.heap.size, 1, none⟩ = some (.int .i64 g.a) ∧ W'.cell? ⟨w1.heap.size, 2, none⟩ = some (.slice A1 g.sub.length c1) := fun W' hW' => by
    have h1 := (hW'.block _ (lt_of_blk hbox2)).trans hbox2
    have h2 := (hW'.block _ (lt_of_blk hg1)).trans hg1
    exact ⟨cell_of_blk h1 0, cell_of_blk h1 1, cell_of_blk h1 2, cell_of_blk h2 0, cell_of_blk h2 1, cell_of_blk h2 2⟩
  obtain ⟨x0, x1, x2, y0, y1, y2⟩ := hcs W (Below.refl _ _)
  have HCS := Lib.hid hcs
  have HB2 := Lib.hid hb2
  have HFI1 := Lib.hid hfi1
  clear hcs hb2 hfi1 hg1 hbox2
  go_upto_region 3 with (first | (go_at_call 27; refine (HTD.out _ HB2.out).mono ?_; rintro e w2 ⟨v2, rfl, ⟨sv2, rfl, hfo⟩, hx⟩; have hrc := rcheck_any hfo.fin w2 tf.k tf.a n (Below.refl _ _); rw [tf.eta, HTC.out] at hrc; obtain ⟨A2, c2, rfl, _, _⟩ := hfo.form; clear hfo) | (go_at_call 26; refine hrc.mono ?_; rintro e w3 ⟨rfl, hx3⟩; have hb3 := bstep hx hx3; clear hx hx3))
  clear x0 x1 x2 y0 y1 y2
  obtain ⟨x0, x1, x2, y0, y1, y2⟩ := HCS.out w3 hb3
  by_cases hC : C = 0
  · subst hC
    have hgn := HGG.out
    rw [if_pos rfl] at hgn
    have HGN := Lib.hid hgn
    clear hgn
    go_upto_region 5 with fail
    by_cases hsz : sizeF (.mk k a fs) ≤ 400
    · obtain ⟨p1, p2, p3⟩ := HPL.out rfl hsz
      have hsm := HSM.out
      rw [decide_eq_true hsz] at hsm
      rw [HGN.out] at p2
      have hrn := fun (W0 W' : World) (sf sg : Value) (h1 : FIn W0 fs sf) (h2 : FIn W0 g.sub sg) (h3 : Below W0.heap.size W0 W') => rnnf_any h1 n W' k a false g sg HGN.out.symm h2 h3 p3
      have htg := fun W' (hW' : Below W.heap.size W W') => told_top HFI1.out W' g.k g.a hW'
      rw [g.eta, p2] at htg
      subst p1
      have htf : ∀ W', Below w.heap.size w W' → Calls Try.prog 27 #[.agg #[.int .i64 k, .int .i64 a, .slice A fs.length c]] W' fun e w' => ∃ sv, e = .returned (.agg #[.int .i64 k, .int .i64 a, sv]) ∧ FOn (fun b => W'.heap.size ≤ b) w' fs sv ∧ Below W'.heap.size W' w' := fun W' hW' =>
        (HTD.out W' hW').mono (fun e w' ⟨v, e1, ⟨sv, e2, hfo⟩, hb⟩ => ⟨sv, by subst e1; subst e2; rfl, hfo, hb⟩)
      have HP := Lib.hid p3
      have HSM2 := Lib.hid hsm
      have HRN := Lib.hid hrn
      have HTG := Lib.hid htg
      have HTF := Lib.hid htf
      clear p2 p3 hsz hsm hrn htg htf x0 x1 x2 y0 y1 y2
      go_region_held3 (fun W' => W'.cell? ⟨w.heap.size, 0, none⟩ = some (.int .i64 k) ∧ W'.cell? ⟨w.heap.size, 1, none⟩ = some (.int .i64 a) ∧ W'.cell? ⟨w.heap.size, 2, none⟩ = some (.slice A fs.length c) ∧ W'.cell? ⟨w1.heap.size, 0, none⟩ = some (.int .i64 g.k) ∧ W'.cell? ⟨w1.heap.size, 1, none⟩ = some (.int .i64 g.a) ∧ W'.cell? ⟨w1.heap.size, 2, none⟩ = some (.slice A1 g.sub.length c1)) (first | exact HCS.out _ hb8 | exact HCS.out _ hb7 | exact HCS.out _ hb6 | exact HCS.out _ hb5 | exact HCS.out _ hb4 | exact HCS.out _ (below_drewA hb3) | exact HCS.out _ hb3) (first | (go_at_call 25; refine (HAW.out _).mono ?_; rintro e w4 ⟨rfl, hx⟩; have hb4 := bstep (below_drewA hb3) hx; clear hx) | (go_at_call 29; refine (HSM2.out _ (bstep HB2.out hb4)).mono ?_; rintro e w5 ⟨rfl, hx⟩; have hb5 := bstep hb4 hx; have tok5 : True := trivial; clear hx) | (go_at_call 27; have _t := tok5; refine (HTF.out _ (bstep HB2.out hb5)).mono ?_; rintro e w6 ⟨sv6, rfl, hfo6, hx⟩; have hb6 := bstep hb5 hx; have hf6 := hfo6.fin; obtain ⟨A6, c6, rfl, _, _⟩ := hf6.form; have HF6 := Lib.hid hf6; clear hx hfo6 hf6 tok5 _t) | (go_at_call 27; refine (HTG.out _ hb6).mono ?_; rintro e w7 ⟨v7, rfl, ⟨sv7, rfl, hfo7⟩, hx⟩; have hb7 := bstep hb6 hx; have hcall := HRN.out w7 w7 _ _ (HF6.out.at_ hx) hfo7.fin (Below.refl _ _); obtain ⟨A7, c7, rfl, _, _⟩ := hfo7.form; clear hx hfo7) | (go_at_call 31; refine hcall.mono ?_; rintro e w8 ⟨rfl, hx⟩; have hb8 := bstep hb7 hx; clear hx))
      all_goals
        go_wp2_with fail
        go_ret
        exact ⟨rfl, bstep HB2.out hb8⟩
    · have hsm := HSM.out
      rw [decide_eq_false hsz] at hsm
      have HSM2 := Lib.hid hsm
      clear hsm x0 x1 x2 y0 y1 y2 hsz
      go_region_law (first | (go_simp; go_at_call 25; refine (HAW.out _).mono ?_; rintro e w4 ⟨rfl, hx⟩; have hb4 := bstep (below_drewA hb3) hx; obtain ⟨x0, x1, x2, y0, y1, y2⟩ := HCS.out w4 hb4; clear hx) | (go_simp; go_at_call 29; refine (HSM2.out _ (bstep HB2.out hb4)).mono ?_; rintro e w5 ⟨rfl, hx⟩; have hb5 := bstep hb4 hx; clear hx))
      all_goals
        go_wp2_with fail
        go_ret
        exact ⟨rfl, bstep HB2.out hb5⟩
  · have hC' : (C != 0) = true := by simpa using hC
    have hC'' : (C == 0) = false := by simpa using hC
    have hgn := HGG.out
    rw [if_neg hC] at hgn
    subst hgn
    simp only [Fm.k, Fm.a, Fm.sub, List.length_nil] at *
    go_wp2_with (go_at_call 25; refine (HAW.out _).mono ?_; rintro e w4 ⟨rfl, hx⟩; obtain ⟨x0, x1, x2, y0, y1, y2⟩ := HCS.out w4 (bstep hb3 hx); have hb4 := bstep hb3 hx; clear hx)
    go_ret
    exact ⟨rfl, bstep HB2.out hb4⟩
end Go.Proofs.Ytdpnififbpoagaa
