/- The law LogicChecks. -/
import Derived.Test.YtdpnififbpoagaaFmAwake
namespace Go.Proofs.Ytdpnififbpoagaa
open Go.RowKit
set_option linter.unusedVariables false
set_option linter.unusedSimpArgs false

theorem belowStep {B : Nat} {w W W1 : World} (h : Below B w W) (h' : Below W.heap.size W W1) (hB : B ≤ w.heap.size := by simp) : Below B w W1 := h.trans (h'.mono (by have := h.size; omega))
theorem box3 {w W : World} {x0 x1 x2 : Value} {E : TypeId} (hb : Below (w.alloc (.cells #[x0, x1, x2] E)).heap.size (w.alloc (.cells #[x0, x1, x2] E)) W) :
    W.cell? ⟨w.heap.size, 0, none⟩ = some x0 ∧ W.cell? ⟨w.heap.size, 1, none⟩ = some x1 ∧ W.cell? ⟨w.heap.size, 2, none⟩ = some x2 := by
  have h := (hb.block w.heap.size (by simp)).trans (heap_alloc_new w _)
  exact ⟨cell_of_blk h 0, cell_of_blk h 1, cell_of_blk h 2⟩
theorem below_box {w W : World} {o : Obj} (hb : Below (w.alloc o).heap.size (w.alloc o) W) : Below w.heap.size w W :=
  ((Below.refl w.heap.size w).alloc (Nat.le_refl _) o).trans (hb.mono (by simp))
set_option maxRecDepth 100000 in
set_option maxHeartbeats 4000000 in
theorem checks_law {w : World} (k a : Int) (fs : List Fm) (sv : Value) (h : FIn w fs sv) (n : Int) (hn : (Lit.int .i64 n).wf = true) :
    Calls Try.prog 10 #[.agg #[.int .i64 k, .int .i64 a, sv], .int .i64 n] w fun e w' => e = .returned (.bool true) ∧ Below w.heap.size w w' := by
  have hsz := fun W hW => size_any h W k a hW
  have hck := fun W hW => check_any h W k a n hW
  have htd := fun W hW => told_top h W k a hW
  have haw := fawake_any
  have htc := told_check (.mk k a fs) n
  have hcg := count_great (.mk k a fs)
  have hcs := count_size (.mk k a fs)
  have hts := toldT_same (.mk k a fs)
  have hgs := @great_size (.mk k a fs)
  have hce := checkF_eq (.mk k a fs) n
  obtain ⟨A, c, rfl, _, _⟩ := h.form
  generalize checkF (.mk k a fs) n = C at *
  generalize toldT (.mk k a fs) = g at *
  generalize countF (.mk k a fs) 0 1 = N at *
  generalize hsf : shapeF (.mk k a fs) n = S at *
  have HSZ := Lib.hid hsz
  have HCK := Lib.hid hck
  have HTD := Lib.hid htd
  have HAW := Lib.hid haw
  have HTC := Lib.hid htc
  have HTS := Lib.hid hts
  clear hsz hck htd haw htc h hts
  cases hg : great (.mk k a fs) with
  | true =>
    rw [hg, if_pos rfl] at hce
    have hN : 20000 < N := hcg.2 hg
    rw [if_pos hN, if_pos hN] at HSZ
    subst hce
    clear hcg hcs hgs hg hsf
    have hb0 := Below.refl (w.alloc (.cells #[.int .i64 k, .int .i64 a, .slice A fs.length c] 48)).heap.size (w.alloc (.cells #[.int .i64 k, .int .i64 a, .slice A fs.length c] 48))
    go_enter Try.func10, Try.ntmps10
    go_wp2_with (first | (go_at_call 38; refine (HSZ.out _ (below_box hb0)).mono ?_; rintro e w1 ⟨rfl, hx⟩; have hb1 := belowStep hb0 hx; obtain ⟨c0, c1, c2⟩ := box3 hb1; clear hx) | (go_at_call 27; refine (HTD.out _ (below_box hb1)).mono ?_; rintro e w2 ⟨v2, rfl, ⟨sv2, rfl, hfo⟩, hx⟩; have hb2 := belowStep hb1 hx; obtain ⟨c0, c1, c2⟩ := box3 hb2; have hrc := rcheck_any hfo.fin w2 g.k g.a n (Below.refl _ _); rw [g.eta, HTC.out] at hrc; obtain ⟨A2, c2', rfl, _, _⟩ := hfo.form; clear hfo hx) | (go_at_call 26; refine hrc.mono ?_; rintro e w3 ⟨rfl, hx⟩; have hb3 := belowStep hb2 hx; obtain ⟨c0, c1, c2⟩ := box3 hb3; clear hx) | (go_at_call 25; refine (HAW.out _).mono ?_; rintro e w4 ⟨rfl, hx⟩; have hb4 := belowStep hb3 hx; obtain ⟨c0, c1, c2⟩ := box3 hb4; clear hx) | (go_at_call 39; refine (HCK.out _ (below_box hb4)).mono ?_; rintro e w5 ⟨rfl, hx⟩; have hb5 := belowStep hb4 hx; clear hx))
    go_ret
    exact ⟨rfl, below_box hb5⟩
  | false =>
    rw [hg, if_neg (by simp)] at hce
    have hN : ¬ 20000 < N := fun h => by have := hcg.1 h; rw [hg] at this; cases this
    have hNs := hcs hg
    have hle := hgs hg
    have hgf := HTS.out (by omega)
    rw [if_neg hN, if_neg hN] at HSZ
    have hnd : nodesF g 20000 = N := by rw [hgf]; unfold nodesF; omega
    clear hcg hcs hgs hg hsf hNs hle hgf HTS hN
    have HND := Lib.hid hnd
    clear hnd
    have hb0 := Below.refl (w.alloc (.cells #[.int .i64 k, .int .i64 a, .slice A fs.length c] 48)).heap.size (w.alloc (.cells #[.int .i64 k, .int .i64 a, .slice A fs.length c] 48))
    cases S with
    | true =>
      rw [if_pos rfl] at hce
      subst hce
      go_enter Try.func10, Try.ntmps10
      go_wp2_with (first | (go_at_call 38; refine (HSZ.out _ (below_box hb0)).mono ?_; rintro e w1 ⟨rfl, hx⟩; have hb1 := belowStep hb0 hx; obtain ⟨c0, c1, c2⟩ := box3 hb1; have tok1 : True := trivial; clear hx) | (go_at_call 27; have _t := tok1; refine (HTD.out _ (below_box hb1)).mono ?_; rintro e w2 ⟨v2, rfl, ⟨sv2, rfl, hfo⟩, hx⟩; have hb2 := belowStep hb1 hx; obtain ⟨c0, c1, c2⟩ := box3 hb2; have hrc := rcheck_any hfo.fin w2 g.k g.a n (Below.refl _ _); rw [g.eta, HTC.out] at hrc; obtain ⟨A2, c2', rfl, _, _⟩ := hfo.form; clear hfo hx tok1 _t) | (go_at_call 26; refine hrc.mono ?_; rintro e w3 ⟨rfl, hx⟩; have hb3 := belowStep hb2 hx; obtain ⟨c0, c1, c2⟩ := box3 hb3; clear hx) | (go_at_call 25; refine (HAW.out _).mono ?_; rintro e w4 ⟨rfl, hx⟩; have hb4 := belowStep hb3 hx; obtain ⟨c0, c1, c2⟩ := box3 hb4; clear hx) | (go_at_call 39; refine (HCK.out _ (below_box hb4)).mono ?_; rintro e w5 ⟨rfl, hx⟩; have hb5 := belowStep hb4 hx; obtain ⟨c0, c1, c2⟩ := box3 hb5; clear hx) | (go_at_call 27; refine (HTD.out _ (below_box hb5)).mono ?_; rintro e w6 ⟨v6, rfl, ⟨sv6, rfl, hfo6⟩, hx⟩; have hb6 := belowStep hb5 hx; have hnn := nodes_any hfo6.fin w6 g.k g.a 20000 (Below.refl _ _) (by omega); rw [g.eta, HND.out] at hnn; obtain ⟨A6, c6', rfl, _, _⟩ := hfo6.form; clear hfo6 hx) | (go_at_call 34; refine hnn.mono ?_; rintro e w7 ⟨rfl, hx⟩; have hb7 := belowStep hb6 hx; clear hx))
      go_ret
      exact ⟨rfl, below_box hb7⟩
    | false =>
      rw [if_neg (by simp)] at hce
      subst hce
      go_enter Try.func10, Try.ntmps10
      go_wp2_with (first | (go_at_call 38; refine (HSZ.out _ (below_box hb0)).mono ?_; rintro e w1 ⟨rfl, hx⟩; have hb1 := belowStep hb0 hx; obtain ⟨c0, c1, c2⟩ := box3 hb1; have tok1 : True := trivial; clear hx) | (go_at_call 27; have _t := tok1; refine (HTD.out _ (below_box hb1)).mono ?_; rintro e w2 ⟨v2, rfl, ⟨sv2, rfl, hfo⟩, hx⟩; have hb2 := belowStep hb1 hx; obtain ⟨c0, c1, c2⟩ := box3 hb2; have hrc := rcheck_any hfo.fin w2 g.k g.a n (Below.refl _ _); rw [g.eta, HTC.out] at hrc; obtain ⟨A2, c2', rfl, _, _⟩ := hfo.form; clear hfo hx tok1 _t) | (go_at_call 26; refine hrc.mono ?_; rintro e w3 ⟨rfl, hx⟩; have hb3 := belowStep hb2 hx; obtain ⟨c0, c1, c2⟩ := box3 hb3; clear hx) | (go_at_call 25; refine (HAW.out _).mono ?_; rintro e w4 ⟨rfl, hx⟩; have hb4 := belowStep hb3 hx; obtain ⟨c0, c1, c2⟩ := box3 hb4; clear hx) | (go_at_call 39; refine (HCK.out _ (below_box hb4)).mono ?_; rintro e w5 ⟨rfl, hx⟩; have hb5 := belowStep hb4 hx; obtain ⟨c0, c1, c2⟩ := box3 hb5; clear hx) | (go_at_call 27; refine (HTD.out _ (below_box hb5)).mono ?_; rintro e w6 ⟨v6, rfl, ⟨sv6, rfl, hfo6⟩, hx⟩; have hb6 := belowStep hb5 hx; have hnn := nodes_any hfo6.fin w6 g.k g.a 20000 (Below.refl _ _) (by omega); rw [g.eta, HND.out] at hnn; obtain ⟨A6, c6', rfl, _, _⟩ := hfo6.form; clear hfo6 hx) | (go_at_call 34; refine hnn.mono ?_; rintro e w7 ⟨rfl, hx⟩; have hb7 := belowStep hb6 hx; clear hx))
      go_ret
      exact ⟨rfl, below_box hb7⟩
end Go.Proofs.Ytdpnififbpoagaa
