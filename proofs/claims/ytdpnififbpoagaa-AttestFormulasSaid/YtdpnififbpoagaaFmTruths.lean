/- The law LogicTruths. -/
import Derived.Test.YtdpnififbpoagaaFmNnfs
import Derived.Test.YtdpnififbpoagaaFmREval
namespace Go.Proofs.Ytdpnififbpoagaa
open Go.RowKit
set_option linter.unusedVariables false
set_option linter.unusedSimpArgs false

set_option maxRecDepth 100000 in
set_option maxHeartbeats 4000000 in
theorem truths_law {w : World} (k a : Int) (fs : List Fm) (sv : Value) (h : FIn w fs sv) (A2 : Option Addr) (n2 c2 : Nat) (vals : List Bool) (hl2 : vals.length = n2) (hnc2 : n2 ≤ c2) (hc2 : c2 * 1 ≤ 140737488351232) (hr2 : Rd w 1 A2 n2 (boolL vals)) :
    Calls Try.prog 7 #[.agg #[.int .i64 k, .int .i64 a, sv], .slice A2 n2 c2] w fun e w' => e = .returned (.bool true) ∧ Below w.heap.size w w' := by
  obtain ⟨i0, hinf, hz0, hz1, hz2⟩ := info_parts info_bool
  have hb0 : Below w.heap.size w (w.alloc (.cells #[.int .i64 k, .int .i64 a, sv] 48)) := (Below.refl _ _).alloc (Nat.le_refl _) _
  have hbox := heap_alloc_new w (.cells #[.int .i64 k, .int .i64 a, sv] 48)
  have hnf := fun W hW => lnnf_any h W k a n2 hW
  have hev := fun W A' c' (hW : Below w.heap.size w W) hr' => leval_any (h.at_ hW) vals A' n2 c' hl2 hr' W k a (Below.refl _ _)
  have htd := fun W hW => told_top h W k a hW
  have hsm := fun W hW => small_any h W k a hW
  have haw := fawake_any
  have htc := told_check (.mk k a fs) n2
  have hpl : checkF (.mk k a fs) n2 = 0 → sizeF (.mk k a fs) ≤ 400 → toldT (.mk k a fs) = .mk k a fs ∧ checkF (nnfF (.mk k a fs) false) n2 = 0 ∧ evalF (nnfF (.mk k a fs) false) vals = evalF (.mk k a fs) vals ∧ shapeF (.mk k a fs) n2 = true := fun h0 h1 =>
    ⟨toldT_same _ (by omega), nnf_check _ _ h0 h1, by rw [nnf_eval _ false n2 vals (checkF_great h0).2]; simp, (checkF_great h0).2⟩
  obtain ⟨A, c, rfl, _, _⟩ := h.form
  generalize hgV : (if checkF (.mk k a fs) n2 = 0 then evalF (.mk k a fs) vals else false) = V at *
  generalize hgT : toldT (.mk k a fs) = tf at *
  generalize hgg : nnfF (.mk k a fs) false = g at *
  generalize hgC : checkF (.mk k a fs) n2 = C at *
  generalize hgE : evalF (.mk k a fs) vals = E at *
  have HNF := Lib.hid hnf
  have HEV := Lib.hid hev
  have HTD := Lib.hid htd
  have HSM := Lib.hid hsm
  have HAW := Lib.hid haw
  have HTC := Lib.hid htc
  have HPL := Lib.hid hpl
  have HGE := Lib.hid hgE
  have HGV := Lib.hid hgV
  clear hnf hev htd hsm haw htc hpl hgg hgT hgC hgE hgV h
  go_enter Try.func7, Try.ntmps7
  go_upto_region 1 with fail
  obtain ⟨W0, hW0⟩ : ∃ W, W = w.alloc (.cells #[.int .i64 k, .int .i64 a, .slice A fs.length c] 48) := ⟨_, rfl⟩
  rw [← hW0] at hb0 hbox ⊢
  clear hW0
  have hcs : ∀ W', Below W0.heap.size W0 W' → W'.cell? ⟨w.heap.size, 0, none⟩ = some (.int .i64 k) ∧ W'.cell? ⟨w.heap.size, 1, none⟩ = some (.int .i64 a) ∧ W'.cell? ⟨w.heap.size, 2, none⟩ = some (.slice A fs.length c) := fun W' hW' => by
    have h1 := (hW'.block _ (lt_of_blk hbox)).trans hbox
    exact ⟨cell_of_blk h1 0, cell_of_blk h1 1, cell_of_blk h1 2⟩
  obtain ⟨x0, x1, x2⟩ := hcs W0 (Below.refl _ _)
  have hlt0 : w.heap.size < W0.heap.size := lt_of_blk hbox
  have hrd0 := hr2.below hb0
  have HRD := Lib.hid hr2
  have HB0 := Lib.hid hb0
  have HCS := Lib.hid hcs
  have HRD0 := Lib.hid hrd0
  have hev0 := fun W A' c' (hW : Below W0.heap.size W0 W) hr' => HEV.out W A' c' (bstep hb0 hW) hr'
  have HEV0 := Lib.hid hev0
  clear hcs hrd0 hev0 hbox hb0 hr2
  go_cut [5, 6] (fun x y wx => x = .bool V ∧ y = .int .i64 C ∧ Below W0.heap.size W0 wx)
  case first =>
    go_region_law (first | (refine stepRS W0.heap.size (W0.drew.alloc (.cells #[] 4)) 1 4 rfl _ _ 37 rfl i0 _ 1 Try.underlying37 hinf hz0 hz1 hz2 rfl (by decide) (by decide) (.slice (some ⟨W0.heap.size, 0, none⟩) 0 0) 0 [] (by simp [Act.eval, Act.put]) (by simp) (own_emptyS _ _ _ _ (Nat.le_refl _)) A2 n2 c2 _ (by simp [Act.eval, Act.put]) ((HRD0.out.drew).alloc _) (boolL_one vals) (by omega) ?_; intro v3 w3 hown3 hg3; have hb3 := app_below (Nat.le_refl _) hg3; obtain ⟨A3, c3, rfl, _, hr3⟩ := ownsRow_form hown3; simp only [List.nil_append, Nat.zero_add] at hr3; obtain ⟨o0', o1', o2'⟩ := HCS.out w3 hb3) | (go_simp; go_at_call 24; refine (HEV0.out _ _ _ hb3 hr3).mono ?_; rintro e w4 ⟨rfl, hb4⟩; have hb5 := bstep hb3 hb4))
    all_goals (go_wp2_with fail; go_meet; exact ⟨rfl, rfl, hb5⟩)
  case rest =>
  obtain ⟨rfl, rfl, hb1⟩ := hcut
  obtain ⟨w1, rfl⟩ : ∃ x, x = wc := ⟨_, rfl⟩
  clear x0 x1 x2
  obtain ⟨x0, x1, x2⟩ := HCS.out w1 hb1
  go_upto_region 3 with (first | (go_at_call 27; refine (HTD.out _ (bstep HB0.out hb1)).mono ?_; rintro e w2 ⟨v2, rfl, ⟨sv2, rfl, hfo⟩, hx⟩; have hrc := rcheck_any hfo.fin w2 tf.k tf.a n2 (Below.refl _ _); rw [tf.eta, HTC.out] at hrc; obtain ⟨A4, c4, rfl, _, _⟩ := hfo.form; clear hfo) | (go_at_call 26; refine hrc.mono ?_; rintro e w3 ⟨rfl, hx3⟩; have hb3 := bstep hb1 (bstep hx hx3); clear hx hx3))
  clear x0 x1 x2
  obtain ⟨x0, x1, x2⟩ := HCS.out w3 hb3
  by_cases hC : C = 0
  · subst hC
    have hgv := HGV.out
    rw [if_pos rfl] at hgv
    subst hgv
    by_cases hsz : sizeF (.mk k a fs) ≤ 400
    · obtain ⟨p1, p2, p3, p4⟩ := HPL.out rfl hsz
      have hsm := HSM.out
      rw [decide_eq_true hsz] at hsm
      have HSM2 := Lib.hid hsm
      have HP := Lib.hid (And.intro p1 (And.intro p2 (And.intro p3 p4)))
      clear hsm p1 p2 p3 p4 hsz
      have hnf0 := HNF.out w3 (bstep HB0.out hb3)
      rw [if_pos rfl] at hnf0
      go_upto_region 6 with (go_at_call 28; refine hnf0.mono ?_; rintro e w5 ⟨v5, rfl, ⟨sv5, rfl, hfo⟩, hx⟩; have hfi := hfo.fin; obtain ⟨A5, c5, rfl, _, _⟩ := hfi.form; have HFI := Lib.hid hfi; have hb5 := bstep hb3 hx; clear hfo hfi hx)
      have hfi6 := HFI.out.at_ ((Below.refl w5.heap.size w5).alloc (Nat.le_refl _) (.cells #[.int .i64 g.k, .int .i64 g.a, .slice A5 g.sub.length c5] 48))
      have hb6 := hb5.alloc hb5.size (.cells #[.int .i64 g.k, .int .i64 g.a, .slice A5 g.sub.length c5] 48)
      have hg6 := heap_alloc_new w5 (.cells #[.int .i64 g.k, .int .i64 g.a, .slice A5 g.sub.length c5] 48)
      obtain ⟨W6, hW6⟩ : ∃ W, W = w5.alloc (.cells #[.int .i64 g.k, .int .i64 g.a, .slice A5 g.sub.length c5] 48) := ⟨_, rfl⟩
      rw [← hW6] at hfi6 hb6 hg6 ⊢
      clear hW6 hb5 hnf0 x0 x1 x2
      have hcs6 : ∀ W', Below W6.heap.size W6 W' → W'.cell? ⟨w.heap.size, 0, none⟩ = some (.int .i64 k) ∧ W'.cell? ⟨w.heap.size, 1, none⟩ = some (.int .i64 a) ∧ W'.cell? ⟨w.heap.size, 2, none⟩ = some (.slice A fs.length c) ∧
          W'.cell? ⟨w5.heap.size, 0, none⟩ = some (.int .i64 g.k) ∧ W'.cell? ⟨w5.heap.size, 1, none⟩ = some (.int .i64 g.a) ∧ W'.cell? ⟨w5.heap.size, 2, none⟩ = some (.slice A5 g.sub.length c5) := fun W' hW' => by
        obtain ⟨h1, h2, h3⟩ := HCS.out W' (bstep hb6 hW')
        have h4 := (hW'.block _ (lt_of_blk hg6)).trans hg6
        exact ⟨h1, h2, h3, cell_of_blk h4 0, cell_of_blk h4 1, cell_of_blk h4 2⟩
      obtain ⟨x0, x1, x2, y0, y1, y2⟩ := hcs6 W6 (Below.refl _ _)
      have HCS6 := Lib.hid hcs6
      have HFI6 := Lib.hid hfi6
      have HLT6 := Lib.hid (And.intro (Nat.lt_of_lt_of_le hlt0 hb6.size) (lt_of_blk hg6))
      have HB6 := Lib.hid (bstep HB0.out hb6)
      clear hcs6 hfi6 hb6 hg6
      go_upto_region 10 with (first | (go_at_call 25; refine (HAW.out _).mono ?_; rintro e w7 ⟨rfl, hx⟩; have hb7 := hx; obtain ⟨x0, x1, x2, y0, y1, y2⟩ := HCS6.out w7 hb7; clear hx) | (go_at_call 29; refine (HSM2.out _ (bstep HB6.out hb7)).mono ?_; rintro e w8 ⟨rfl, hx⟩; have hb8 := bstep hb7 hx; clear hx))
      clear x0 x1 x2 y0 y1 y2
      obtain ⟨x0, x1, x2, y0, y1, y2⟩ := HCS6.out w8 hb8
      have hl8 : w.heap.size < w8.heap.size ∧ w5.heap.size < w8.heap.size := by
        have := hb8.size
        have := HLT6.out
        omega
      obtain ⟨hl8a, hl8b⟩ := hl8
      have hrd8 := HRD.out.below (bstep HB6.out hb8)
      have hev8 := fun W A' c' (hW : Below w8.heap.size w8 W) hr' => leval_any (HFI6.out.at_ (bstep hb8 hW)) vals A' n2 c' hl2 hr' W g.k g.a (Below.refl _ _)
      rw [g.eta, HP.out.2.1, HP.out.2.2.1, if_pos rfl] at hev8
      have hcs8 := fun W' (hW' : Below w8.heap.size w8 W') => HCS6.out W' (bstep hb8 hW')
      have HRD8 := Lib.hid hrd8
      have HEV8 := Lib.hid hev8
      have HCS8 := Lib.hid hcs8
      have HB8 := Lib.hid hb8
      clear hrd8 hev8 hcs8 hb8
      go_cut [10, 11] (fun x y wx => x = .bool E ∧ y = .int .i64 0 ∧ Below w8.heap.size w8 wx)
      case first =>
        go_region_law (first | (refine stepRS w8.heap.size (w8.drew.alloc (.cells #[] 4)) 1 4 rfl _ _ 37 rfl i0 _ 1 Try.underlying37 hinf hz0 hz1 hz2 rfl (by decide) (by decide) (.slice (some ⟨w8.heap.size, 0, none⟩) 0 0) 0 [] (by simp [Act.eval, Act.put]) (by simp) (own_emptyS _ _ _ _ (Nat.le_refl _)) A2 n2 c2 _ (by simp [Act.eval, Act.put]) ((HRD8.out.drew).alloc _) (boolL_one vals) (by omega) ?_; intro v3 w3 hown3 hg3; have hb3 := app_below (Nat.le_refl _) hg3; obtain ⟨A3, c3, rfl, _, hr3⟩ := ownsRow_form hown3; simp only [List.nil_append, Nat.zero_add] at hr3; obtain ⟨o0', o1', o2', o3', o4', o5'⟩ := HCS8.out w3 hb3) | (go_simp; go_at_call 24; refine (HEV8.out _ _ _ hb3 hr3).mono ?_; rintro e w4 ⟨rfl, hb4⟩; have hb5 := bstep hb3 hb4))
        all_goals (go_wp2_with fail; go_meet; exact ⟨rfl, rfl, hb5⟩)
      case rest =>
      obtain ⟨rfl, rfl, hb9⟩ := hcut
      obtain ⟨w9, rfl⟩ : ∃ x, x = wc := ⟨_, rfl⟩
      clear x0 x1 x2 y0 y1 y2 hl8a hl8b
      obtain ⟨x0, x1, x2, y0, y1, y2⟩ := HCS8.out w9 hb9
      have hb9' := bstep HB6.out (bstep HB8.out hb9)
      obtain ⟨p1, _, _, p4⟩ := HP.out
      subst p1
      have htf : ∀ W', Below w.heap.size w W' → Calls Try.prog 27 #[.agg #[.int .i64 k, .int .i64 a, .slice A fs.length c]] W' fun e w' => ∃ sv, e = .returned (.agg #[.int .i64 k, .int .i64 a, sv]) ∧ FOn (fun b => W'.heap.size ≤ b) w' fs sv ∧ Below W'.heap.size W' w' := fun W' hW' =>
        (HTD.out W' hW').mono (fun e w' ⟨v, e1, ⟨sv, e2, hfo⟩, hb⟩ => ⟨sv, by subst e1; subst e2; rfl, hfo, hb⟩)
      have HTF := Lib.hid htf
      have HP4 := Lib.hid p4
      clear htf p4
      go_wp2_with (first | (go_at_call 27; refine (HTF.out _ hb9').mono ?_; rintro e w10 ⟨sv10, rfl, hfo10, hx⟩; have hre := reval_any hfo10.fin vals A2 n2 c2 hl2 (HRD.out.below (bstep hb9' hx)) w10 k a (Below.refl _ _) HP4.out; rw [HGE.out] at hre; have hb10 := bstep hb9' hx; obtain ⟨A10, c10, rfl, _, _⟩ := hfo10.form; clear hfo10 hx) | (go_at_call 30; refine hre.mono ?_; rintro e w11 ⟨rfl, hx⟩; have hb11 := bstep hb10 hx; clear hx))
      go_ret
      exact ⟨ret_bool (by simp), hb11⟩
    · have hsm := HSM.out
      rw [decide_eq_false hsz] at hsm
      have HSM2 := Lib.hid hsm
      clear hsm hsz
      have hnf0 := HNF.out w3 (bstep HB0.out hb3)
      rw [if_pos rfl] at hnf0
      go_upto_region 6 with (go_at_call 28; refine hnf0.mono ?_; rintro e w5 ⟨v5, rfl, ⟨sv5, rfl, hfo⟩, hx⟩; have hfi := hfo.fin; obtain ⟨A5, c5, rfl, _, _⟩ := hfi.form; have HFI := Lib.hid hfi; have hb5 := bstep hb3 hx; clear hfo hfi hx)
      have hfi6 := HFI.out.at_ ((Below.refl w5.heap.size w5).alloc (Nat.le_refl _) (.cells #[.int .i64 g.k, .int .i64 g.a, .slice A5 g.sub.length c5] 48))
      have hb6 := hb5.alloc hb5.size (.cells #[.int .i64 g.k, .int .i64 g.a, .slice A5 g.sub.length c5] 48)
      have hg6 := heap_alloc_new w5 (.cells #[.int .i64 g.k, .int .i64 g.a, .slice A5 g.sub.length c5] 48)
      obtain ⟨W6, hW6⟩ : ∃ W, W = w5.alloc (.cells #[.int .i64 g.k, .int .i64 g.a, .slice A5 g.sub.length c5] 48) := ⟨_, rfl⟩
      rw [← hW6] at hfi6 hb6 hg6 ⊢
      clear hW6 hb5 hnf0 x0 x1 x2
      have hcs6 : ∀ W', Below W6.heap.size W6 W' → W'.cell? ⟨w.heap.size, 0, none⟩ = some (.int .i64 k) ∧ W'.cell? ⟨w.heap.size, 1, none⟩ = some (.int .i64 a) ∧ W'.cell? ⟨w.heap.size, 2, none⟩ = some (.slice A fs.length c) ∧
          W'.cell? ⟨w5.heap.size, 0, none⟩ = some (.int .i64 g.k) ∧ W'.cell? ⟨w5.heap.size, 1, none⟩ = some (.int .i64 g.a) ∧ W'.cell? ⟨w5.heap.size, 2, none⟩ = some (.slice A5 g.sub.length c5) := fun W' hW' => by
        obtain ⟨h1, h2, h3⟩ := HCS.out W' (bstep hb6 hW')
        have h4 := (hW'.block _ (lt_of_blk hg6)).trans hg6
        exact ⟨h1, h2, h3, cell_of_blk h4 0, cell_of_blk h4 1, cell_of_blk h4 2⟩
      obtain ⟨x0, x1, x2, y0, y1, y2⟩ := hcs6 W6 (Below.refl _ _)
      have HCS6 := Lib.hid hcs6
      have HFI6 := Lib.hid hfi6
      have HLT6 := Lib.hid (And.intro (Nat.lt_of_lt_of_le hlt0 hb6.size) (lt_of_blk hg6))
      have HB6 := Lib.hid (bstep HB0.out hb6)
      clear hcs6 hfi6 hb6 hg6
      go_wp2_with (first | (go_at_call 25; refine (HAW.out _).mono ?_; rintro e w7 ⟨rfl, hx⟩; have hb7 := hx; obtain ⟨x0, x1, x2, y0, y1, y2⟩ := HCS6.out w7 hb7; clear hx) | (go_at_call 29; refine (HSM2.out _ (bstep HB6.out hb7)).mono ?_; rintro e w8 ⟨rfl, hx⟩; have hb8 := bstep hb7 hx; clear hx))
      go_ret
      exact ⟨rfl, bstep HB6.out hb8⟩
  · have hC' : (C != 0) = true := by simpa using hC
    have hC'' : (C == 0) = false := by simpa using hC
    have hgv := HGV.out
    rw [if_neg hC] at hgv
    subst hgv
    go_wp2_with (go_at_call 25; refine (HAW.out _).mono ?_; rintro e w4 ⟨rfl, hx⟩; have hb4 := bstep hb3 hx; clear hx)
    go_ret
    exact ⟨by simp, bstep HB0.out hb4⟩
end Go.Proofs.Ytdpnififbpoagaa
