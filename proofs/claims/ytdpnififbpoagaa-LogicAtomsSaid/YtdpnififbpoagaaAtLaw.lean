/- The law LogicAtoms. -/
import Derived.Test.YtdpnififbpoagaaFmTruths
import Derived.Test.YtdpnififbpoagaaAtHas
namespace Go.Proofs.Ytdpnififbpoagaa
open Go.RowKit
set_option linter.unusedVariables false
set_option linter.unusedSimpArgs false

theorem Rd.intI {w : World} {A : Option Addr} {n : Nat} {xs : List Int} (h : Rd w 1 A n (intL xs)) (k : Nat) (hk : k < n) {x : Int} (hx : xs[k]? = some x) :
    ∃ b off, A = some ⟨b, off, none⟩ ∧ w.cell? ⟨b, off + k, none⟩ = some (.int .i64 x) := by
  obtain ⟨b, off, u, rfl, hu, hc⟩ := h.at_ hk
  rw [intL, List.getElem?_map, hx] at hu
  obtain rfl : (.int .i64 x : Value) = u := Option.some.inj hu
  exact ⟨b, off, rfl, hc⟩
theorem take_mem {xs : List Int} {i : Nat} {x a : Int} (hx : xs[i]? = some x) : decide (a ∈ xs.take (i + 1)) = (decide (a ∈ xs.take i) || decide (a = x)) := by
  have hi : i < xs.length := (List.getElem?_eq_some_iff.1 hx).1
  have e : xs[i] = x := (List.getElem?_eq_some_iff.1 hx).2
  rw [List.take_succ_eq_append_getElem hi, e]
  simp
theorem strict_step {xs : List Int} (h : xs.Pairwise fun a b => a < b) {i : Nat} {x y : Int} (hx : xs[i + 1]? = some x) (hy : xs[i]? = some y) : y < x := by
  obtain ⟨h1, rfl⟩ := List.getElem?_eq_some_iff.1 hx
  obtain ⟨h2, rfl⟩ := List.getElem?_eq_some_iff.1 hy
  exact List.pairwise_iff_getElem.1 h i (i + 1) h2 h1 (by omega)

set_option maxRecDepth 100000 in
set_option maxHeartbeats 8000000 in
theorem latoms_law {w : World} (k a : Int) (fs : List Fm) (sv : Value) (h : FIn w fs sv) (n : Int) (hn : (Lit.int .i64 n).wf = true) :
    Calls Try.prog 14 #[.agg #[.int .i64 k, .int .i64 a, sv], .int .i64 n] w fun e w' => e = .returned (.bool true) ∧ Below w.heap.size w w' := by
  have hb0 : Below w.heap.size w (w.alloc (.cells #[.int .i64 k, .int .i64 a, sv] 48)) := (Below.refl _ _).alloc (Nat.le_refl _) _
  have hbox := heap_alloc_new w (.cells #[.int .i64 k, .int .i64 a, sv] 48)
  have hin := fun W hW => atoms_any h W k a n hW
  have htd := fun W hW => told_top h W k a hW
  have hsm := fun W hW => small_any h W k a hW
  have haw := fawake_any
  have htc := told_check (.mk k a fs) n
  have hpl : checkF (.mk k a fs) n = 0 → sizeF (.mk k a fs) ≤ 400 → toldT (.mk k a fs) = .mk k a fs := fun h0 h1 => toldT_same _ (by omega)
  obtain ⟨AI, hAI⟩ : ∃ AI, AI = if checkF (.mk k a fs) n = 0 then atomsI (.mk k a fs) else [] := ⟨_, rfl⟩
  have hip : checkF (.mk k a fs) n = 0 → AI.Pairwise (fun a b => a < b) ∧ (∀ x, hasF (.mk k a fs) x = decide (x ∈ AI)) ∧ AI.length ≤ sizeF (.mk k a fs) := fun h0 => by
    rw [hAI, if_pos h0]
    exact ⟨atomsI_strict _, fun x => by rw [hasF]; congr 1; exact propext (atomsI_mem _ x).symm, atomsI_len _⟩
  have hip' : checkF (.mk k a fs) n ≠ 0 → AI = [] := fun h0 => by rw [hAI, if_neg h0]
  rw [← hAI] at hin
  clear hAI
  obtain ⟨A, c, rfl, _, _⟩ := h.form
  generalize hgT : toldT (.mk k a fs) = tf at *
  generalize hgC : checkF (.mk k a fs) n = C at *
  have HIN := Lib.hid hin
  have HTD := Lib.hid htd
  have HSM := Lib.hid hsm
  have HAW := Lib.hid haw
  have HTC := Lib.hid htc
  have HPL := Lib.hid hpl
  have HIP := Lib.hid hip
  have HIP' := Lib.hid hip'
  clear hin htd hsm haw htc hpl hip hip' hgT hgC h
  go_enter Try.func14, Try.ntmps14
  go_upto_region 1 with fail
  obtain ⟨W0, hW0⟩ : ∃ W, W = w.alloc (.cells #[.int .i64 k, .int .i64 a, .slice A fs.length c] 48) := ⟨_, rfl⟩
  rw [← hW0] at hb0 hbox ⊢
  clear hW0
  have hcs : ∀ W', Below W0.heap.size W0 W' → W'.cell? ⟨w.heap.size, 0, none⟩ = some (.int .i64 k) ∧ W'.cell? ⟨w.heap.size, 1, none⟩ = some (.int .i64 a) ∧ W'.cell? ⟨w.heap.size, 2, none⟩ = some (.slice A fs.length c) := fun W' hW' => by
    have h1 := (hW'.block _ (lt_of_blk hbox)).trans hbox
    exact ⟨cell_of_blk h1 0, cell_of_blk h1 1, cell_of_blk h1 2⟩
  obtain ⟨x0, x1, x2⟩ := hcs W0 (Below.refl _ _)
  have HB0 := Lib.hid hb0
  have HCS := Lib.hid hcs
  clear hcs hbox hb0
  go_upto_region 3 with (first | (go_at_call 36; refine (HIN.out _ HB0.out).mono ?_; rintro e w1 ⟨v1, rfl, hown1, hb1⟩; obtain ⟨A1, c1, rfl, _, hr1⟩ := ownsRow_form hown1; obtain ⟨x0, x1, x2⟩ := HCS.out w1 hb1; have HR1 := Lib.hid hr1; clear hr1 hown1) | (go_at_call 27; refine (HTD.out _ (bstep HB0.out hb1)).mono ?_; rintro e w2 ⟨v2, rfl, ⟨sv2, rfl, hfo⟩, hx⟩; have hrc := rcheck_any hfo.fin w2 tf.k tf.a n (Below.refl _ _); rw [tf.eta, HTC.out] at hrc; obtain ⟨A4, c4, rfl, _, _⟩ := hfo.form; clear hfo) | (go_at_call 26; refine hrc.mono ?_; rintro e w3 ⟨rfl, hx3⟩; have hb13 := bstep hx hx3; clear hx hx3))
  clear x0 x1 x2
  have hr3 := HR1.out.below hb13
  have hb3 := bstep hb1 hb13
  clear hb13 hb1 HR1
  obtain ⟨x0, x1, x2⟩ := HCS.out w3 hb3
  by_cases hC : C = 0
  · subst hC
    obtain ⟨q1, q2, q3⟩ := HIP.out rfl
    have HR3 := Lib.hid hr3
    clear hr3
    by_cases hsz : sizeF (.mk k a fs) ≤ 400
    · have p1 := HPL.out rfl hsz
      have hml : AI.length ≤ 400 := Nat.le_trans q3 hsz
      have hsm := HSM.out
      rw [decide_eq_true hsz] at hsm
      have HSM2 := Lib.hid hsm
      subst p1
      have htf : ∀ W', Below w.heap.size w W' → Calls Try.prog 27 #[.agg #[.int .i64 k, .int .i64 a, .slice A fs.length c]] W' fun e w' => ∃ sv, e = .returned (.agg #[.int .i64 k, .int .i64 a, sv]) ∧ FOn (fun b => W'.heap.size ≤ b) w' fs sv ∧ Below W'.heap.size W' w' := fun W' hW' =>
        (HTD.out W' hW').mono (fun e w' ⟨v, e1, ⟨sv, e2, hfo⟩, hb⟩ => ⟨sv, by subst e1; subst e2; rfl, hfo, hb⟩)
      have HTF := Lib.hid htf
      have HQ1 := Lib.hid q1
      have HQ2 := Lib.hid q2
      clear htf q1 q2 q3 hsm hsz HTD HSM HPL HIP HIP' HTC HIN
      go_upto_region 9 with (first | (go_at_call 25; refine (HAW.out _).mono ?_; rintro e w4 ⟨rfl, hx⟩; have hb4 := bstep hb3 hx; have HR4 := Lib.hid (HR3.out.below hx); obtain ⟨x0, x1, x2⟩ := HCS.out w4 hb4; clear hx) | (go_at_call 29; refine (HSM2.out _ (bstep HB0.out hb4)).mono ?_; rintro e w8 ⟨rfl, hx⟩; have hb8 := bstep hb4 hx; have HR8 := Lib.hid (HR4.out.below hx); clear hx))
      clear x0 x1 x2
      have HB8 := Lib.hid hb8
      clear hb8 hb4 hb3 HR3 HR4
      go_wp2_with fail
      go_loopw [48] (fun i wr => ∃ j : Nat, j ≤ AI.length ∧ i = .int .i64 j ∧ Below w8.heap.size w8 wr) (fun i _ => AI.length - (intOf i).toNat)
      case atStart => exact ⟨0, Nat.zero_le _, rfl, Below.refl _ _⟩
      case round =>
        obtain ⟨j, hj, rfl, hbr⟩ := hrel
        have HBR := Lib.hid hbr
        have HBW := Lib.hid (bstep HB8.out hbr)
        by_cases hlt : j < AI.length
        · obtain ⟨x, hx⟩ : ∃ x, AI[j]? = some x := ⟨_, List.getElem?_eq_getElem hlt⟩
          have hxm : hasF (.mk k a fs) x = true := by rw [HQ2.out]; simpa using List.mem_of_getElem? hx
          obtain ⟨b, off, rfl, y0⟩ := (HR8.out.below hbr).intI j hlt hx
          have HXM := Lib.hid hxm
          obtain ⟨x0, x1, x2⟩ := HCS.out wr HBW.out
          clear hxm hbr
          by_cases hj0 : j = 0
          · subst hj0
            clear hx
            simp only [Nat.add_zero] at y0
            go_wp2_with (first | (go_at_call 27; refine (HTF.out _ (bstep HB0.out HBW.out)).mono ?_; rintro e w10 ⟨sv10, rfl, hfo, hx⟩; have hb10 := (Below.refl wr.heap.size wr).trans (show Below wr.heap.size wr w10 from ⟨hx.os, hx.tape, hx.output, hx.size, hx.block⟩); have hcall := rhas_any hfo.fin x w10 k a (Below.refl _ _); rw [HXM.out] at hcall; have HCALL := Lib.hid hcall; obtain ⟨A10, c10, rfl, _, _⟩ := hfo.form; clear hx hfo hcall) | (go_at_call 45; refine HCALL.out.mono ?_; rintro e w11 ⟨rfl, hx⟩; have hb11 := bstep hb10 hx; clear hx))
            go_roundw
            case rel => exact ⟨1, by omega, by go_num, bstep HBR.out hb11⟩
            case measure => first | (simp [intOf]; done) | (simp [intOf]; omega)
          · obtain ⟨i, rfl⟩ : ∃ i, j = i + 1 := ⟨j - 1, by omega⟩
            obtain ⟨y, hy⟩ : ∃ y, AI[i]? = some y := ⟨_, List.getElem?_eq_getElem (by omega)⟩
            have hyx : y < x := strict_step HQ1.out hx hy
            obtain ⟨b', off', e', z0⟩ := (HR8.out.below HBR.out).intI i (by omega) hy
            injection e' with e'
            injection e' with e1 e2
            subst e1 e2
            clear hx hy
            have e2 : (i : Int) + 1 - 1 = i := by omega
            have hge : ¬ y ≥ x := by omega
            go_wp2_with (first | (go_at_call 27; refine (HTF.out _ (bstep HB0.out HBW.out)).mono ?_; rintro e w10 ⟨sv10, rfl, hfo, hx⟩; have hb10 := (Below.refl wr.heap.size wr).trans (show Below wr.heap.size wr w10 from ⟨hx.os, hx.tape, hx.output, hx.size, hx.block⟩); have hcall := rhas_any hfo.fin x w10 k a (Below.refl _ _); rw [HXM.out] at hcall; have HCALL := Lib.hid hcall; obtain ⟨A10, c10, rfl, _, _⟩ := hfo.form; clear hx hfo hcall) | (go_at_call 45; refine HCALL.out.mono ?_; rintro e w11 ⟨rfl, hx⟩; have hb11 := bstep hb10 hx; clear hx))
            go_roundw
            case rel => exact ⟨i + 2, by omega, by go_num, bstep HBR.out hb11⟩
            case measure => first | (simp [intOf]; done) | (simp [intOf]; omega)
        · obtain rfl : j = AI.length := by omega
          clear hbr hj hlt
          obtain ⟨w9, rfl⟩ : ∃ x, x = wr := ⟨_, rfl⟩
          have HB9 := Lib.hid HBW.out
          have HR9 := Lib.hid (HR8.out.below HBR.out)
          clear HBW HBR HR8 HB8
          go_wp2_with fail
          go_loopw [10] (fun z wr => ∃ q : Nat, z = .int .i64 q ∧ q ≤ 50 ∧ Below w9.heap.size w9 wr) (fun z _ => 50 - (intOf z).toNat)
          case atStart => exact ⟨0, rfl, by omega, Below.refl _ _⟩
          case round =>
            obtain ⟨q, rfl, hq, hbr⟩ := hrel
            have HBR := Lib.hid hbr
            have HBW := Lib.hid (bstep HB9.out hbr)
            clear hbr
            by_cases h1 : (q : Int) < n ∧ q < 50
            · obtain ⟨h1, h2⟩ := h1
              obtain ⟨x0, x1, x2⟩ := HCS.out wr HBW.out
              have h2' : (q : Int) < 50 := by omega
              go_wp2_with fail
              obtain ⟨wq, rfl⟩ : ∃ x, x = wr := ⟨_, rfl⟩
              go_loopw [11, 83] (fun u z wr => ∃ i : Nat, i ≤ AI.length ∧ u = .bool (decide ((q : Int) ∈ AI.take i)) ∧ z = .int .i64 i ∧ wr = wq) (fun _ z _ => AI.length - (intOf z).toNat)
              case atStart => exact ⟨0, by omega, by simp, rfl, rfl⟩
              case round =>
                obtain ⟨i, hi, rfl, rfl, hww⟩ := hrel
                by_cases hli : i < AI.length
                · obtain ⟨x, hx⟩ : ∃ x, AI[i]? = some x := ⟨_, List.getElem?_eq_getElem hli⟩
                  obtain ⟨b, off, rfl, y0⟩ := (HR9.out.below HBR.out).intI i hli hx
                  have ht := take_mem (a := (q : Int)) hx
                  rw [← hww] at y0
                  have HT := Lib.hid ht
                  have HWW := Lib.hid hww
                  clear hx ht hww
                  generalize decide ((q : Int) ∈ AI.take i) = u at *
                  by_cases hqx : (q : Int) = x
                  · rw [decide_eq_true hqx, Bool.or_true] at HT
                    have hqx' : ((q : Int) == x) = true := by simpa using hqx
                    clear hqx
                    cases u with
                    | true =>
                      go_wp2_with fail
                      go_roundw
                      case rel => exact ⟨i + 1, by omega, by rw [HT.out], by go_num, HWW.out⟩
                      case measure => first | (simp [intOf]; done) | (simp [intOf]; omega)
                    | false =>
                      go_wp2_with fail
                      go_roundw
                      case rel => exact ⟨i + 1, by omega, by rw [HT.out], by go_num, HWW.out⟩
                      case measure => first | (simp [intOf]; done) | (simp [intOf]; omega)
                  · rw [decide_eq_false hqx, Bool.or_false] at HT
                    have hqx' : ((q : Int) == x) = false := by simpa using hqx
                    clear hqx
                    cases u with
                    | true =>
                      go_wp2_with fail
                      go_roundw
                      case rel => exact ⟨i + 1, by omega, by rw [HT.out], by go_num, HWW.out⟩
                      case measure => first | (simp [intOf]; done) | (simp [intOf]; omega)
                    | false =>
                      go_wp2_with fail
                      go_roundw
                      case rel => exact ⟨i + 1, by omega, by rw [HT.out], by go_num, HWW.out⟩
                      case measure => first | (simp [intOf]; done) | (simp [intOf]; omega)
                · obtain rfl : i = AI.length := by omega
                  have hqm := HQ2.out (q : Int)
                  rw [List.take_length]
                  generalize decide ((q : Int) ∈ AI) = u at *
                  have HQM := Lib.hid hqm
                  subst hww
                  clear hqm hi hli
                  go_wp2_with (first | (go_at_call 27; refine (HTF.out _ (bstep HB0.out HBW.out)).mono ?_; rintro e w10 ⟨sv10, rfl, hfo, hx⟩; have hb10 := (Below.refl wr.heap.size wr).trans (show Below wr.heap.size wr w10 from ⟨hx.os, hx.tape, hx.output, hx.size, hx.block⟩); have hcall := rhas_any hfo.fin (q : Int) w10 k a (Below.refl _ _); rw [HQM.out] at hcall; have HCALL := Lib.hid hcall; obtain ⟨A10, c10, rfl, _, _⟩ := hfo.form; clear hx hfo hcall) | (go_at_call 45; refine HCALL.out.mono ?_; rintro e w11 ⟨rfl, hx⟩; have hb11 := bstep hb10 hx; clear hx))
                  go_roundw
                  case rel => exact ⟨q + 1, by go_num, by omega, bstep HBR.out hb11⟩
                  case measure => first | (simp [intOf]; done) | (simp [intOf]; omega)
            · by_cases h2 : (q : Int) < n
              · have h3 : ¬ (q : Int) < 50 := fun h => h1 ⟨h2, by omega⟩
                go_wp2_with fail
                go_ret
                exact ⟨rfl, bstep HB0.out HBW.out⟩
              · go_wp2_with fail
                go_ret
                exact ⟨rfl, bstep HB0.out HBW.out⟩
    · have hsm := HSM.out
      rw [decide_eq_false hsz] at hsm
      have HSM2 := Lib.hid hsm
      clear hsm hsz
      go_wp2_with (first | (go_at_call 25; refine (HAW.out _).mono ?_; rintro e w7 ⟨rfl, hx⟩; have hb7 := bstep hb3 hx; obtain ⟨x0, x1, x2⟩ := HCS.out w7 hb7; clear hx) | (go_at_call 29; refine (HSM2.out _ (bstep HB0.out hb7)).mono ?_; rintro e w8 ⟨rfl, hx⟩; have hb8 := bstep hb7 hx; clear hx))
      go_ret
      exact ⟨rfl, bstep HB0.out hb8⟩
  · have hC' : (C != 0) = true := by simpa using hC
    have hC'' : (C == 0) = false := by simpa using hC
    have hp := HIP'.out hC
    subst hp
    go_wp2_with (go_at_call 25; refine (HAW.out _).mono ?_; rintro e w4 ⟨rfl, hx⟩; have hb4 := bstep hb3 hx; clear hx)
    go_ret
    exact ⟨by simp, bstep HB0.out hb4⟩
end Go.Proofs.Ytdpnififbpoagaa
