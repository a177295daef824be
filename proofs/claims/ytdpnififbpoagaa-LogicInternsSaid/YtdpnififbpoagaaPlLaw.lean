/- The law LogicInterns. -/
import Derived.Test.YtdpnififbpoagaaFmTruths
import Derived.Test.YtdpnififbpoagaaPlIntern
import Derived.Test.YtdpnififbpoagaaPlRef
import Derived.Test.YtdpnififbpoagaaRefEval
namespace Go.Proofs.Ytdpnififbpoagaa
open Go.RowKit
set_option linter.unusedVariables false
set_option linter.unusedSimpArgs false

theorem ks_of {S : Nat → Prop} {w0 w : World} (h : Below w0.heap.size w0 w) : KS S w0 w := ⟨h.size, fun p hp _ => h.cell hp⟩
set_option maxRecDepth 100000 in
set_option maxHeartbeats 8000000 in
theorem linterns_law {w : World} (k a : Int) (fs : List Fm) (sv : Value) (h : FIn w fs sv) (A2 : Option Addr) (n2 c2 : Nat) (vals : List Bool) (hl2 : vals.length = n2) (hnc2 : n2 ≤ c2) (hc2 : c2 * 1 ≤ 140737488351232) (hr2 : Rd w 1 A2 n2 (boolL vals)) :
    Calls Try.prog 13 #[.agg #[.int .i64 k, .int .i64 a, sv], .slice A2 n2 c2] w fun e w' => e = .returned (.bool true) ∧ Below w.heap.size w w' := by
  have hb0 : Below w.heap.size w (w.alloc (.cells #[.int .i64 k, .int .i64 a, sv] 48)) := (Below.refl _ _).alloc (Nat.le_refl _) _
  have hbox := heap_alloc_new w (.cells #[.int .i64 k, .int .i64 a, sv] 48)
  have hin := fun W hW => intern_any h W k a n2 hW
  have htd := fun W hW => told_top h W k a hW
  have hsm := fun W hW => small_any h W k a hW
  have haw := fawake_any
  have htc := told_check (.mk k a fs) n2
  have hpl : checkF (.mk k a fs) n2 = 0 → sizeF (.mk k a fs) ≤ 400 → toldT (.mk k a fs) = .mk k a fs ∧ shapeF (.mk k a fs) n2 = true ∧ Good (placeF (.mk k a fs) ns0).1 ∧ (placeF (.mk k a fs) ns0).2 < (placeF (.mk k a fs) ns0).1.length ∧ ev (placeF (.mk k a fs) ns0).1 vals (placeF (.mk k a fs) ns0).2 = evalF (.mk k a fs) vals := fun h0 h1 => by
    have hsh := (checkF_great h0).2
    rw [← hl2] at hsh
    have hok := place_ok (.mk k a fs) vals ns0 good0 hsh (by simp [ns0]; omega)
    exact ⟨toldT_same _ (by omega), hl2 ▸ hsh, hok.good, hok.lt, hok.val⟩
  have hip : checkF (.mk k a fs) n2 = 0 → internP (.mk k a fs) n2 = ((placeF (.mk k a fs) ns0).2, (placeF (.mk k a fs) ns0).1) := fun h0 => if_pos h0
  have hip' : checkF (.mk k a fs) n2 ≠ 0 → internP (.mk k a fs) n2 = (0, []) := fun h0 => if_neg h0
  obtain ⟨A, c, rfl, _, _⟩ := h.form
  generalize hgI : internP (.mk k a fs) n2 = I at *
  obtain ⟨root, nodes⟩ := I
  generalize hgP : placeF (.mk k a fs) ns0 = P at *
  generalize hgT : toldT (.mk k a fs) = tf at *
  generalize hgC : checkF (.mk k a fs) n2 = C at *
  generalize hgE : evalF (.mk k a fs) vals = E at *
  have HIN := Lib.hid hin
  have HTD := Lib.hid htd
  have HSM := Lib.hid hsm
  have HAW := Lib.hid haw
  have HTC := Lib.hid htc
  have HPL := Lib.hid hpl
  have HGE := Lib.hid hgE
  have HGP := Lib.hid hgP
  have HIP := Lib.hid hip
  have HIP' := Lib.hid hip'
  clear hin htd hsm haw htc hpl hip hip' hgT hgC hgE hgP hgI h
  go_enter Try.func13, Try.ntmps13
  go_upto_region 1 with fail
  obtain ⟨W0, hW0⟩ : ∃ W, W = w.alloc (.cells #[.int .i64 k, .int .i64 a, .slice A fs.length c] 48) := ⟨_, rfl⟩
  rw [← hW0] at hb0 hbox ⊢
  clear hW0
  have hcs : ∀ W', Below W0.heap.size W0 W' → W'.cell? ⟨w.heap.size, 0, none⟩ = some (.int .i64 k) ∧ W'.cell? ⟨w.heap.size, 1, none⟩ = some (.int .i64 a) ∧ W'.cell? ⟨w.heap.size, 2, none⟩ = some (.slice A fs.length c) := fun W' hW' => by
    have h1 := (hW'.block _ (lt_of_blk hbox)).trans hbox
    exact ⟨cell_of_blk h1 0, cell_of_blk h1 1, cell_of_blk h1 2⟩
  obtain ⟨x0, x1, x2⟩ := hcs W0 (Below.refl _ _)
  have HR2 := Lib.hid hr2
  have HB0 := Lib.hid hb0
  have HCS := Lib.hid hcs
  clear hcs hbox hb0 hr2
  go_upto_region 3 with (first | (go_at_call 35; refine (HIN.out _ HB0.out).mono ?_; rintro e w1 ⟨v1, rfl, hown1, hb1⟩; obtain ⟨A1, c1, rfl, _, hr1⟩ := ownsRow_form hown1; obtain ⟨x0, x1, x2⟩ := HCS.out w1 hb1; have HR1 := Lib.hid hr1; clear hr1 hown1) | (go_at_call 27; refine (HTD.out _ (bstep HB0.out hb1)).mono ?_; rintro e w2 ⟨v2, rfl, ⟨sv2, rfl, hfo⟩, hx⟩; have hrc := rcheck_any hfo.fin w2 tf.k tf.a n2 (Below.refl _ _); rw [tf.eta, HTC.out] at hrc; obtain ⟨A4, c4, rfl, _, _⟩ := hfo.form; clear hfo) | (go_at_call 26; refine hrc.mono ?_; rintro e w3 ⟨rfl, hx3⟩; have hb13 := bstep hx hx3; clear hx hx3))
  clear x0 x1 x2
  have hr3 := HR1.out.below hb13
  have hb3 := bstep hb1 hb13
  clear hb13 hb1 HR1
  obtain ⟨x0, x1, x2⟩ := HCS.out w3 hb3
  by_cases hC : C = 0
  · subst hC
    have hp := HIP.out rfl
    injection hp with hp1 hp2
    subst hp1 hp2
    have HR3 := Lib.hid hr3
    clear hr3
    by_cases hsz : sizeF (.mk k a fs) ≤ 400
    · obtain ⟨p1, p2, p3, p4, p5⟩ := HPL.out rfl hsz
      have hsm := HSM.out
      rw [decide_eq_true hsz] at hsm
      have HSM2 := Lib.hid hsm
      subst p1
      have htf : ∀ W', Below w.heap.size w W' → Calls Try.prog 27 #[.agg #[.int .i64 k, .int .i64 a, .slice A fs.length c]] W' fun e w' => ∃ sv, e = .returned (.agg #[.int .i64 k, .int .i64 a, sv]) ∧ FOn (fun b => W'.heap.size ≤ b) w' fs sv ∧ Below W'.heap.size W' w' := fun W' hW' =>
        (HTD.out W' hW').mono (fun e w' ⟨v, e1, ⟨sv, e2, hfo⟩, hb⟩ => ⟨sv, by subst e1; subst e2; rfl, hfo, hb⟩)
      have hpc : ∀ (S : Nat → Prop) (w0 : World) (sv : Value) (W : World) (v : Value), FOn S w0 fs sv → KS S w0 W → (∀ b, b < w0.heap.size → S b → v.ownBlock ≠ some b) → ∀ B, B ≤ W.heap.size → W.ownsRow B 34 3 v 2 (ndCells ns0) →
          Calls Try.prog 43 #[v, .agg #[.int .i64 k, .int .i64 a, sv]] W fun e w' => ∃ v', e = .returned (.tuple #[v', .int .i64 (P.2 : Nat)]) ∧ w'.ownsRow B 34 3 v' P.1.length (ndCells P.1) ∧ RPl B v v' W w' := fun S w0 sv W v hf hk hv B hB ho => by
        have h1 := rplace_any hf vals B W k a v ns0 hk hv (by rw [hl2]; exact p2) good0 (by simp [ns0]; omega) hB ho
        rw [HGP.out] at h1
        exact h1
      have HTF := Lib.hid htf
      have HPC := Lib.hid hpc
      have HP := Lib.hid (And.intro p2 (And.intro p3 (And.intro p4 p5)))
      clear htf hpc p2 p3 p5 hsm hsz HTD HSM HPL HIP HIP' HTC HIN
      obtain ⟨ns, root⟩ := P
      have hmost : ns.length ≤ 20000 := HP.out.2.1.most
      go_upto_region 9 with (first | (go_at_call 25; refine (HAW.out _).mono ?_; rintro e w4 ⟨rfl, hx⟩; have hb4 := bstep hb3 hx; have HR4 := Lib.hid (HR3.out.below hx); obtain ⟨x0, x1, x2⟩ := HCS.out w4 hb4; clear hx) | (go_at_call 29; refine (HSM2.out _ (bstep HB0.out hb4)).mono ?_; rintro e w8 ⟨rfl, hx⟩; have hb8 := bstep hb4 hx; have HR8 := Lib.hid (HR4.out.below hx); clear hx))
      clear x0 x1 x2
      obtain ⟨x0, x1, x2⟩ := HCS.out w8 hb8
      have HB8 := Lib.hid hb8
      clear hb8 hb4 hb3
      go_cut [9, 10] (fun x y wx => ∃ A5 c5, x = .slice A5 ns.length c5 ∧ y = .int .i64 (root : Nat) ∧ Rd wx 3 A5 ns.length (ndCells ns) ∧ Below w8.heap.size w8 wx)
      case first =>
        go_region_held3 (fun W' => W'.cell? ⟨w.heap.size, 0, none⟩ = some (.int .i64 k) ∧ W'.cell? ⟨w.heap.size, 1, none⟩ = some (.int .i64 a) ∧ W'.cell? ⟨w.heap.size, 2, none⟩ = some (.slice A fs.length c)) (first | exact HCS.out _ (bstep HB8.out hb11) | exact HCS.out _ (bstep HB8.out hb10) | exact HCS.out _ (bstep HB8.out hb9) | exact HCS.out _ (below_drewA HB8.out) | exact HCS.out _ HB8.out) (first | (go_at_call 44; refine (rstart_any _).mono ?_; rintro e w9 ⟨v9, rfl, ho9, hx⟩; have hb9 := (Below.refl w8.heap.size w8).trans (show Below w8.heap.size w8 w9 from ⟨hx.os, hx.tape, hx.output, hx.size, hx.block⟩); have HO9 := Lib.hid (own_more ho9 (show w8.heap.size ≤ _ from Nat.le_refl _)); clear hx ho9) | (go_at_call 27; refine (HTF.out _ (bstep HB0.out (bstep HB8.out hb9))).mono ?_; rintro e w10 ⟨sv10, rfl, hfo, hx⟩; have hb10 := bstep hb9 hx; have hcall := HPC.out _ _ _ w10 v9 hfo (ks_of (Below.refl _ _)) (fun b hb hS e => by have := (own_lt HO9.out e).2; omega) w8.heap.size hb10.size (own_below HO9.out hx); have HCALL := Lib.hid hcall; obtain ⟨A10, c10, rfl, _, _⟩ := hfo.form; clear hx hfo hcall) | (go_at_call 43; refine HCALL.out.mono ?_; rintro e w11 ⟨v11, rfl, ho11, hpl11⟩; have hb11 := hb10.trans hpl11.bel; obtain ⟨A11, c11, rfl, _, hr11⟩ := ownsRow_form ho11; have HR11 := Lib.hid hr11; clear ho11 hpl11 hr11))
        all_goals
          go_wp2_with fail
          go_meet
          exact ⟨_, _, rfl, rfl, HR11.out, hb11⟩
      case rest =>
      obtain ⟨A5, c5, rfl, rfl, hr5, hb5⟩ := hcut
      obtain ⟨w9, rfl⟩ : ∃ x, x = wc := ⟨_, rfl⟩
      have HR9 := Lib.hid (HR8.out.below hb5)
      have HR5 := Lib.hid hr5
      have HB9 := Lib.hid (bstep HB8.out hb5)
      clear hr5 hb5 x0 x1 x2 HR8 HR4 HR3
      go_wp2_with fail
      go_loopw [71] (fun i wr => ∃ j : Nat, j ≤ ns.length ∧ i = .int .i64 j ∧ Below w9.heap.size w9 wr) (fun i _ => ns.length - (intOf i).toNat)
      case atStart => exact ⟨0, Nat.zero_le _, rfl, Below.refl _ _⟩
      case round =>
        obtain ⟨j, hj, rfl, hbr⟩ := hrel
        by_cases hlt : j < ns.length
        · obtain ⟨b4, o4, rfl, x0, x1, x2, _⟩ := (HR9.out.below hbr).nd3 j hlt rfl
          obtain ⟨b5, o5, rfl, y0, y1, y2, _⟩ := (HR5.out.below hbr).nd3 j hlt rfl
          have hX : ∃ X, nd ns j = X := ⟨_, rfl⟩
          obtain ⟨⟨xk, xa, xb⟩, hX⟩ := hX
          rw [hX] at x0 x1 x2 y0 y1 y2
          have HX := Lib.hid hX
          clear hX
          simp only at x0 x1 x2 y0 y1 y2
          go_upto_region 15 with fail
          have hb6 := hbr.alloc hbr.size (.cells #[.int .i64 xk, .int .i64 xa, .int .i64 xb] 34)
          have hn6 := heap_alloc_new wr (.cells #[.int .i64 xk, .int .i64 xa, .int .i64 xb] 34)
          clear x0 x1 x2 y0 y1 y2
          obtain ⟨b4', o4', e4, x0, x1, x2, _⟩ := (HR9.out.below hb6).nd3 j hlt rfl
          injection e4 with e4
          injection e4 with e41 e42
          subst e41 e42
          rw [HX.out] at x0 x1 x2
          simp only at x0 x1 x2
          obtain ⟨W6, hW6⟩ : ∃ W, W = wr.alloc (.cells #[.int .i64 xk, .int .i64 xa, .int .i64 xb] 34) := ⟨_, rfl⟩
          rw [← hW6] at hb6 hn6 x0 x1 x2 ⊢
          clear hW6
          have z0 := cell_of_blk hn6 0
          have z1 := cell_of_blk hn6 1
          have z2 := cell_of_blk hn6 2
          simp at z0 z1 z2
          go_quiet (fail)
          go_wp2_with fail
          go_roundw
          case rel => exact ⟨j + 1, by omega, by go_num, below_drewN hb6 nq⟩
          case measure => simp [intOf]; omega
        · obtain ⟨q2, q3, q4, q5⟩ := HP.out
          have hcv := fun W (hW : Below w9.heap.size w9 W) => rneval_any ns root vals A5 A2 c5 n2 c2 W q3 q4 (HR5.out.below hW) hl2 (HR2.out.below (bstep HB0.out (bstep HB9.out hW)))
          rw [q5] at hcv
          have HCV := Lib.hid hcv
          have hbw := bstep HB9.out hbr
          have HBR := Lib.hid hbr
          have HBW := Lib.hid hbw
          clear hcv q3 q4 q5 hbr hbw
          have hsh : shapeF (.mk k a fs) n2 = true := q2
          go_upto_region 18 with fail
          go_region_held3 (fun W' => W'.cell? ⟨w.heap.size, 0, none⟩ = some (.int .i64 k) ∧ W'.cell? ⟨w.heap.size, 1, none⟩ = some (.int .i64 a) ∧ W'.cell? ⟨w.heap.size, 2, none⟩ = some (.slice A fs.length c)) (first | exact HCS.out _ (bstep HBW.out hb12) | exact HCS.out _ (bstep HBW.out hb11) | exact HCS.out _ (bstep HBW.out hb10) | exact HCS.out _ (below_drewA HBW.out) | exact HCS.out _ HBW.out) (first | (go_at_call 42; refine (HCV.out _ (below_drewA HBR.out)).mono ?_; rintro e w10 ⟨rfl, hx⟩; have hb10 := (Below.refl wr.heap.size wr).trans (show Below wr.heap.size wr w10 from ⟨hx.os, hx.tape, hx.output, hx.size, hx.block⟩); clear hx) | (go_at_call 27; refine (HTF.out _ (bstep HB0.out (bstep HBW.out hb10))).mono ?_; rintro e w11 ⟨sv11, rfl, hfo, hx⟩; have hb11 := bstep hb10 hx; have hcall := reval_any hfo.fin vals A2 n2 c2 hl2 (HR2.out.below (bstep HB0.out (bstep HBW.out hb11))) w11 k a (Below.refl _ _) hsh; rw [HGE.out] at hcall; have HCALL := Lib.hid hcall; obtain ⟨A11, c11, rfl, _, _⟩ := hfo.form; clear hx hfo hcall) | (go_at_call 30; refine HCALL.out.mono ?_; rintro e w12 ⟨rfl, hx⟩; have hb12 := bstep hb11 hx; clear hx))
          all_goals
            go_wp2_with fail
            go_ret
            exact ⟨ret_bool (by simp), bstep HB0.out (bstep HBW.out hb12)⟩
    · have hsm := HSM.out
      rw [decide_eq_false hsz] at hsm
      have HSM2 := Lib.hid hsm
      clear hsm hsz
      go_wp2_with (first | (go_at_call 25; refine (HAW.out _).mono ?_; rintro e w7 ⟨rfl, hx⟩; have hb7 := bstep hb3 hx; obtain ⟨x0, x1, x2⟩ := HCS.out w7 hb7; clear hx) | (go_at_call 29; refine (HSM2.out _ (bstep HB0.out hb7)).mono ?_; rintro e w8 ⟨rfl, hx⟩; have hb8 := bstep hb7 hx; clear hx))
      go_ret
      exact ⟨rfl, bstep HB0.out hb8⟩
  · have hC' : (C != 0) = true := by simpa using hC
    have hC'' : (C == 0) = false := by simpa using hC
    have hp := HIP'.out hC
    injection hp with hp1 hp2
    subst hp1 hp2
    go_wp2_with (go_at_call 25; refine (HAW.out _).mono ?_; rintro e w4 ⟨rfl, hx⟩; have hb4 := bstep hb3 hx; clear hx)
    go_ret
    exact ⟨by simp, bstep HB0.out hb4⟩
end Go.Proofs.Ytdpnififbpoagaa
