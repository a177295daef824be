/- The law AttestFormulas. -/
import Derived.Test.YtdpnififbpoagaaFmTruths
import Derived.Test.YtdpnififbpoagaaAtHas
import Derived.Test.YtdpnififbpoagaaPlPlace
import Derived.Test.YtdpnififbpoagaaFoMath
import Derived.Test.YtdpnififbpoagaaFoSkip
import Derived.Test.YtdpnififbpoagaaAmong
import Derived.Test.YtdpnififbpoagaaNodeEval
import Derived.Deep.DeepCutAuto
namespace Go.Proofs.Ytdpnififbpoagaa
open Go.RowKit
set_option linter.unusedVariables false
set_option linter.unusedSimpArgs false

theorem own_set1 {w : World} {B : Nat} {e : TypeId} {n : Nat} {v : Value} {xs : List Value} (h : w.ownsRow B e 1 v n xs) (k : Nat) (hk : k < n) :
    ∃ g c, v = .slice (some ⟨g, 0, none⟩) n c ∧ B ≤ g ∧ g < w.heap.size ∧ w.cell? ⟨g, k, none⟩ = xs[k]? ∧ w.frozen? ⟨g, k, none⟩ = false ∧ ∀ u, Rd (w.setCell ⟨g, k, none⟩ u) 1 (some ⟨g, 0, none⟩) n (xs.set k u) := by
  rcases h.2 with ⟨_, h0⟩ | ⟨g, cap, cur, rfl, hB, hh, hnc, hcm, hs, ht⟩
  · omega
  · refine ⟨g, cap, rfl, hB, lt_of_blk hh, ?_, frozen_of_blk hh k, fun u => ⟨by rw [List.length_set]; exact h.1, fun _ => ⟨g, 0, rfl, fun j x hx => ?_⟩⟩⟩
    · rw [cell_of_blk hh, ← ht, List.getElem?_take_of_lt (by omega), Array.getElem?_toList]
    · rw [Nat.zero_add, cell_of_blk (set_blk hh k u)]
      rw [← ht] at hx
      by_cases hjk : k = j
      · subst hjk
        rw [List.getElem?_set_self (by rw [List.length_take, Array.length_toList]; omega)] at hx
        rw [← hx]
        exact Array.getElem?_setIfInBounds_self_of_lt (by omega)
      · rw [List.getElem?_set_ne hjk] at hx
        have hj : j < n * 1 := by
          have := (List.getElem?_eq_some_iff.1 hx).1
          rw [List.length_take] at this
          omega
        rw [List.getElem?_take_of_lt hj, Array.getElem?_toList] at hx
        rw [← hx, Array.getElem?_setIfInBounds_ne hjk]
theorem boolL_set (vals : List Bool) (k : Nat) (b : Bool) : (boolL vals).set k (.bool b) = boolL (vals.set k b) := by simp [boolL, List.map_set]
theorem boolL_get (vals : List Bool) (k : Nat) (hk : k < vals.length) : (boolL vals)[k]? = some (.bool vals[k]) := by simp [boolL, hk]
theorem tab_lt {w : World} {tb mb : Nat} {sv : Value} {ns : List Nd} (h : Tab w tb mb sv ns) (b : Nat) (hb : TS tb mb sv b) : b < w.heap.size := by
  rcases hb with rfl | rfl | hb
  · exact lt_of_blk h.blk
  · obtain ⟨ps, hp, _⟩ := h.map
    exact lt_of_blk hp
  · exact (own_lt h.own hb).2
theorem ts_between {w : World} {B tb mb : Nat} {sv : Value} {ns : List Nd} (ht : Tab w tb mb sv ns) (hB : B ≤ tb) (hmb : tb ≤ mb) (hsv : ∀ b, sv.ownBlock = some b → tb ≤ b) : ∀ b, TS tb mb sv b → B ≤ b ∧ b < w.heap.size := fun b hb =>
  ⟨by
    rcases hb with rfl | rfl | hb
    · exact hB
    · omega
    · exact Nat.le_trans hB (hsv b hb), tab_lt ht b hb⟩
theorem internP_two (f g : Fm) (n : Int) (hp : checkF g n = 0 → placeF g ns0 = placeF f ns0) (r : Nat) (hr : r = (placeF f ns0).2) : checkF g n = 0 → (internP g n).1 = r := fun h => by
  rw [internP, if_pos h, hr, hp h]
theorem own_rd {w : World} {B n c size : Nat} {A : Option Addr} {e : TypeId} {xs : List Value} (h : w.ownsRow B e size (.slice A n c) n xs) : Rd w size A n xs := by
  obtain ⟨A', c', e', _, hr⟩ := ownsRow_form h
  injection e' with e1 _ e2
  subst e1
  exact hr
theorem own_frS {S : Nat → Prop} {w w1 : World} {B n c size : Nat} {A : Option Addr} {e : TypeId} {xs : List Value} (h : Fr S w w1) (ho : w.ownsRow B e size (.slice A n c) n xs) (hS : ∀ b, S b → b < B) : w1.ownsRow B e size (.slice A n c) n xs :=
  h.own ho (fun b hb hs => by
    have h1 := (own_lt ho hb).1
    have h2 := hS b hs
    omega)
theorem Rd.intJ {w : World} {A : Option Addr} {n : Nat} {xs : List Int} (h : Rd w 1 A n (intL xs)) (k : Nat) (hk : k < n) {x : Int} (hx : xs[k]? = some x) :
    ∃ b off, A = some ⟨b, off, none⟩ ∧ w.cell? ⟨b, off + k, none⟩ = some (.int .i64 x) := by
  obtain ⟨b, off, u, rfl, hu, hc⟩ := h.at_ hk
  rw [intL, List.getElem?_map, hx] at hu
  obtain rfl : (.int .i64 x : Value) = u := Option.some.inj hu
  exact ⟨b, off, rfl, hc⟩
theorem take_memJ {xs : List Int} {i : Nat} {x a : Int} (hx : xs[i]? = some x) : decide (a ∈ xs.take (i + 1)) = (decide (a ∈ xs.take i) || decide (a = x)) := by
  have hi : i < xs.length := (List.getElem?_eq_some_iff.1 hx).1
  have e : xs[i] = x := (List.getElem?_eq_some_iff.1 hx).2
  rw [List.take_succ_eq_append_getElem hi, e]
  simp
theorem take_neg {ns : List Nd} (g : Good ns) (m : Nat) : ∀ i, i < (ns.take m).length → (nd (ns.take m) i).k = 4 → 0 ≤ (nd (ns.take m) i).a := fun i hi hk => by
  rw [List.length_take] at hi
  have e : nd (ns.take m) i = nd ns i := by rw [nd_get _ _ (by rw [List.length_take]; omega), nd_get _ _ (by omega), List.getElem_take]
  rw [e] at hk ⊢
  exact g.neg i (by omega) hk
theorem ts_zone {w w2 W : World} {B tb mb : Nat} {sv sv3 : Value} {L : Nat} (h : ∀ b, TS tb mb sv b → (B ≤ b ∧ b < w2.heap.size) ∨ L ≤ b) (hL : L ≤ W.heap.size) (hn : ∀ b, sv3.ownBlock = some b → sv.ownBlock = some b ∨ W.heap.size ≤ b) : ∀ b, TS tb mb sv3 b → (B ≤ b ∧ b < w2.heap.size) ∨ L ≤ b := fun b hb => by
  rcases hb with rfl | rfl | hb
  · exact h _ (.inl rfl)
  · exact h _ (.inr (.inl rfl))
  · rcases hn b hb with h' | h'
    · exact h _ (.inr (.inr h'))
    · right; omega
set_option maxRecDepth 100000 in
set_option maxHeartbeats 16000000 in
theorem formulas_law {w : World} (k a : Int) (fs : List Fm) (sv : Value) (h : FIn w fs sv) (A2 : Option Addr) (n2 c2 : Nat) (vals : List Bool) (hl2 : vals.length = n2) (hnc2 : n2 ≤ c2) (hc2 : c2 * 1 ≤ 140737488351232) (hr2 : Rd w 1 A2 n2 (boolL vals)) (m : Int) (hm : (Lit.int .i64 m).wf = true) :
    Calls Try.prog 9 #[.agg #[.int .i64 k, .int .i64 a, sv], .slice A2 n2 c2, .int .i64 m] w fun e w' => e = .returned (.bool true) ∧ Below w.heap.size w w' := by
  obtain ⟨i0, hinf, hz0, hz1, hz2⟩ := info_parts info_bool
  have hb0 : Below w.heap.size w (w.alloc (.cells #[.int .i64 k, .int .i64 a, sv] 48)) := (Below.refl _ _).alloc (Nat.le_refl _) _
  have hbox := heap_alloc_new w (.cells #[.int .i64 k, .int .i64 a, sv] 48)
  have htd := fun W hW => told_top h W k a hW
  have hts := told_small (.mk k a fs) 300 (by omega)
  have htc := told_check (.mk k a fs) n2
  have hpr := parse_any
  have hnt := new_tab
  have hh := h
  obtain ⟨A, c, rfl, _, _⟩ := h.form
  have HH := Lib.hid hh
  generalize hgT : toldT (.mk k a fs) = tf at *
  generalize hgN : nodesF tf 300 = NF at *
  have HTD := Lib.hid htd
  have HPR := Lib.hid hpr
  have HNT := Lib.hid hnt
  clear htd hpr hnt h hh hgT
  go_enter Try.func9, Try.ntmps9
  go_upto_region 1 with fail
  obtain ⟨W0, hW0⟩ : ∃ W, W = w.alloc (.cells #[.int .i64 k, .int .i64 a, .slice A fs.length c] 48) := ⟨_, rfl⟩
  rw [← hW0] at hb0 hbox ⊢
  clear hW0
  have hcs : ∀ W', Below W0.heap.size W0 W' → W'.cell? ⟨w.heap.size, 0, none⟩ = some (.int .i64 k) ∧ W'.cell? ⟨w.heap.size, 1, none⟩ = some (.int .i64 a) ∧ W'.cell? ⟨w.heap.size, 2, none⟩ = some (.slice A fs.length c) := fun W' hW' => by
    have h1 := (hW'.block _ (lt_of_blk hbox)).trans hbox
    exact ⟨cell_of_blk h1 0, cell_of_blk h1 1, cell_of_blk h1 2⟩
  have HR2 := Lib.hid hr2
  have HB0 := Lib.hid hb0
  have HCS := Lib.hid hcs
  have HLT0 := Lib.hid (lt_of_blk hbox)
  clear hcs hbox hb0 hr2
  go_upto_region 3 with (first | (go_at_call 32; refine (HPR.out _).mono ?_; clear HPR; rintro e w1 ⟨⟨A1, n1, rfl⟩, hb1⟩) | (go_at_call 33; refine (HNT.out _).mono ?_; clear HNT; rintro e w2 ⟨rfl, sv0, mb, ht, hx, hmb, hsv⟩; have hb2 := bstep hb1 hx; have HT := Lib.hid ht; have HTL := Lib.hid (ts_between ht hb1.size hmb hsv); have hlen := len_old _ _ _ _ _ ht; rw [show ns0.length = 2 from rfl] at hlen; clear hx ht hmb hsv))
  go_upto_region 5 with (go_at_call 20; refine hlen.mono ?_; rintro e w3 ⟨rfl, hw⟩; obtain rfl := hw.symm; clear hw)
  obtain ⟨x0, x1, x2⟩ := HCS.out w2 hb2
  have tok0 : True := trivial
  by_cases hC : checkF (.mk k a fs) n2 = 0
  · by_cases hsz : sizeF (.mk k a fs) ≤ 300
    · have hNF : ¬ (300 < (NF : Int)) := by have := hts.2 hsz; omega
      go_upto_region 7 with (first | (go_at_call 27; have _t := tok0; refine (HTD.out _ (bstep HB0.out hb2)).mono ?_; clear tok0 x0 x1 x2; rintro e w4 ⟨v4, rfl, ⟨sv4, rfl, hfo⟩, hx⟩; have hrc := rcheck_any hfo.fin w4 tf.k tf.a n2 (Below.refl _ _); rw [tf.eta, htc] at hrc; obtain ⟨A4, c4, rfl, _, _⟩ := hfo.form; have hb4 := bstep hb2 hx; have hd4 := (Below.refl w2.heap.size w2).trans hx; obtain ⟨x0, x1, x2⟩ := HCS.out w4 hb4; clear hfo hx) | (go_at_call 26; refine hrc.mono ?_; clear hrc x0 x1 x2; rintro e w5 ⟨rfl, hx⟩; have hb5 := bstep hb4 hx; have hd5 := bstep hd4 hx; obtain ⟨x0, x1, x2⟩ := HCS.out w5 hb5; clear hx) | (go_at_call 27; refine (HTD.out _ (bstep HB0.out hb5)).mono ?_; clear x0 x1 x2; rintro e w6 ⟨v6, rfl, ⟨sv6, rfl, hfo⟩, hx⟩; have hrn := nodes_any hfo.fin w6 tf.k tf.a 300 (Below.refl _ _) (by omega); rw [tf.eta, hgN] at hrn; obtain ⟨A6, c6, rfl, _, _⟩ := hfo.form; have hb6 := bstep hb5 hx; have hd6 := bstep hd5 hx; clear hfo hx) | (go_at_call 34; refine hrn.mono ?_; clear hrn; rintro e w7 ⟨rfl, hx⟩; have hb7 := bstep hb6 hx; have hd7 := bstep hd6 hx; clear hx))
      clear hNF hgN hts htc HTD
      obtain ⟨p1, p2⟩ : checkF (nnfF (.mk k a fs) false) n2 = 0 ∧ evalF (nnfF (.mk k a fs) false) vals = evalF (.mk k a fs) vals := ⟨nnf_check _ _ hC (by omega), by rw [nnf_eval _ false n2 vals (checkF_great hC).2]; simp⟩
      have hev := fun W (vs : List Bool) A' c' (hW : Below w.heap.size w W) (hl : vs.length = n2) hr' => leval_any (HH.out.at_ hW) vs A' n2 c' hl hr' W k a (Below.refl _ _)
      have hnf := fun W hW => lnnf_any HH.out W k a n2 hW
      have hin := fun W hW => intern_any HH.out W k a n2 hW
      have hat := fun W hW => atoms_any HH.out W k a n2 hW
      have hip : internP (.mk k a fs) n2 = ((placeF (.mk k a fs) ns0).2, (placeF (.mk k a fs) ns0).1) := if_pos hC
      simp only [hC, if_true] at hev hnf hat
      simp only [hC, hip] at hin
      have heg := fun W svg A' c' (hg : FIn W (nnfF (.mk k a fs) false).sub svg) hr' => leval_any hg vals A' n2 c' hl2 hr' W (nnfF (.mk k a fs) false).k (nnfF (.mk k a fs) false).a (Below.refl _ _)
      simp only [Fm.eta, p1, p2, if_true] at heg
      have hum := atomsI_mem (.mk k a fs)
      have hul := atomsI_len (.mk k a fs)
      have hot : ∀ (q : Nat) v, (q : Int) ∉ atomsI (.mk k a fs) → evalF (.mk k a fs) (vals.set q v) = evalF (.mk k a fs) vals := fun q v hq => eval_other _ n2 vals q v (checkF_great hC).2 (fun e => hq ((hum _).2 e))
      clear hum
      have hul2 : (atomsI (.mk k a fs)).length ≤ 300 := Nat.le_trans hul hsz
      clear hul
      generalize atomsI (.mk k a fs) = U at *
      have HFC := Lib.hid (And.intro hC hsz)
      clear hC hsz p1 p2 hip
      generalize hgg : nnfF (.mk k a fs) false = g at *
      have HEV := Lib.hid hev
      have HEG := Lib.hid heg
      have HNF := Lib.hid hnf
      have HIN := Lib.hid hin
      have HAT := Lib.hid hat
      clear hev heg hnf hin hat hgg
      have hsh : shapeF (.mk k a fs) vals.length = true := by rw [hl2]; exact (checkF_great HFC.out.1).2
      have hi2 : checkF (.mk 3 0 [.mk k a fs, .mk k a fs]) n2 = 0 → (internP (.mk 3 0 [.mk k a fs, .mk k a fs]) n2).1 = (placeF (.mk k a fs) ns0).2 := fun e => by
        have h0 := HFC.out.2
        rw [internP, if_pos e, place_and2 _ vals hsh (by omega)]
      have hi3 : checkF (.mk 4 0 [.mk k a fs, .mk 2 0 [.mk k a fs]]) n2 = 0 → (internP (.mk 4 0 [.mk k a fs, .mk 2 0 [.mk k a fs]]) n2).1 = 1 ∧ (placeF (.mk k a fs) ns0).1.length ≤ (internP (.mk 4 0 [.mk k a fs, .mk 2 0 [.mk k a fs]]) n2).2.length := fun e => by
        have h0 := HFC.out.2
        rw [internP, if_pos e]
        exact place_or2 _ vals hsh (by omega)
      have hii2 := fun (W : World) v (hv : FIn W [.mk k a fs, .mk k a fs] v) => intern_any hv W 3 0 n2 (Below.refl _ _)
      have hii3 := fun (W : World) v (hv : FIn W [.mk k a fs, .mk 2 0 [.mk k a fs]] v) => intern_any hv W 4 0 n2 (Below.refl _ _)
      generalize internP (.mk 3 0 [.mk k a fs, .mk k a fs]) n2 = I2 at *
      generalize internP (.mk 4 0 [.mk k a fs, .mk 2 0 [.mk k a fs]]) n2 = I3 at *
      generalize checkF (.mk 3 0 [.mk k a fs, .mk k a fs]) n2 = C2 at *
      generalize checkF (.mk 4 0 [.mk k a fs, .mk 2 0 [.mk k a fs]]) n2 = C3 at *
      have HI2 := Lib.hid hi2
      have HI3 := Lib.hid hi3
      have HII2 := Lib.hid hii2
      have HII3 := Lib.hid hii3
      have hpo := place_ok (.mk k a fs) vals ns0 good0 hsh (by have := HFC.out.2; simp [ns0]; omega)
      have hno := place_noOpp (.mk k a fs) ns0 good0 noOpp0
      have HSH := Lib.hid hsh
      have HPO := Lib.hid (And.intro hpo.good (And.intro hpo.lt (And.intro hpo.val hno)))
      clear hi2 hi3 hii2 hii3 hsh hpo hno
      generalize hgE : evalF (.mk k a fs) vals = E at *
      generalize placeF (.mk k a fs) ns0 = P at *
      obtain ⟨ns, root⟩ := P
      simp only at HIN HI2 HI3 HPO
      have HGE := Lib.hid hgE
      have HOT := Lib.hid hot
      have HUL := Lib.hid hul2
      clear hgE hot hul2
      have hrw := HR2.out.below (bstep HB0.out hb7)
      have HRW := Lib.hid hrw
      clear hrw
      go_upto_region 8 with (at_builtin; refine appR w7.heap.size w7 (w7.alloc (.cells #[] 4)) 4 rfl _ _ 37 rfl i0 (.bool false) 1 Try.underlying37 hinf hz0 hz1 hz2 rfl (by decide) _ 0 [] rfl (Nat.le_refl _) (own_empty _ _ _ (Nat.le_refl _)) ((Below.refl _ _).alloc (Nat.le_refl _) _) A2 n2 c2 (boolL vals) rfl (HRW.out.alloc _) (boolL_one _) (by omega) ?_)
      intro v8 w8 ho8 hx _
      have hb8 := bstep hb7 hx
      have hd8 := bstep hd7 hx
      have ho8 := own_more ho8 hd7.size
      obtain ⟨A8, c8, rfl, _, hr8⟩ := ownsRow_form ho8
      obtain ⟨x0, x1, x2⟩ := HCS.out w8 hb8
      have hcall := HEV.out w8 vals A8 c8 (bstep HB0.out hb8) hl2 hr8
      rw [HGE.out] at hcall
      have HO8 := Lib.hid ho8
      clear ho8 hr8 hx HRW
      go_upto_region 9 with (go_at_call 24; refine hcall.mono ?_; clear hcall x0 x1 x2; rintro e w9 ⟨rfl, hx⟩; have hb9 := bstep hb8 hx; have hd9 := bstep hd8 hx; have ho9 := own_below HO8.out hx; clear HO8 hx; obtain ⟨x0, x1, x2⟩ := HCS.out w9 hb9; have hcall := HNF.out w9 (bstep HB0.out hb9))
      go_upto_region 10 with (go_at_call 28; refine hcall.mono ?_; clear hcall x0 x1 x2; rintro e w10 ⟨v10, rfl, ⟨sv10, rfl, hfo⟩, hx⟩; have hfi := hfo.fin; obtain ⟨A10, c10, rfl, _, _⟩ := hfi.form; have hb10 := bstep hb9 hx; have hd10 := bstep hd9 hx; have ho10 := own_below ho9 hx; have HFI := Lib.hid hfi; have HO10 := Lib.hid ho10; clear hfo hfi hx ho9 ho10)
      have hfi11 := HFI.out.at_ ((Below.refl w10.heap.size w10).alloc (Nat.le_refl _) (.cells #[.int .i64 g.k, .int .i64 g.a, .slice A10 g.sub.length c10] 48))
      have hb11 := hb10.alloc hb10.size (.cells #[.int .i64 g.k, .int .i64 g.a, .slice A10 g.sub.length c10] 48)
      have hd11 := hd10.alloc hd10.size (.cells #[.int .i64 g.k, .int .i64 g.a, .slice A10 g.sub.length c10] 48)
      have ho11 := own_below HO10.out ((Below.refl w10.heap.size w10).alloc (Nat.le_refl _) (.cells #[.int .i64 g.k, .int .i64 g.a, .slice A10 g.sub.length c10] 48))
      have hg11 := heap_alloc_new w10 (.cells #[.int .i64 g.k, .int .i64 g.a, .slice A10 g.sub.length c10] 48)
      obtain ⟨W11, hW11⟩ : ∃ W, W = w10.alloc (.cells #[.int .i64 g.k, .int .i64 g.a, .slice A10 g.sub.length c10] 48) := ⟨_, rfl⟩
      rw [← hW11] at hfi11 hb11 hd11 ho11 hg11 ⊢
      clear hW11 HFI HO10
      have y0 := cell_of_blk hg11 0
      have y1 := cell_of_blk hg11 1
      have y2 := cell_of_blk hg11 2
      simp at y0 y1 y2
      obtain ⟨A8', c8', e8, _, hr11⟩ := ownsRow_form ho11
      injection e8 with e81 _ e82
      subst e81 e82
      have hcall := HEG.out W11 _ A8 c8 hfi11 hr11
      have HO11 := Lib.hid ho11
      clear ho11 hr11 hfi11 hg11
      go_upto_region 11 with (go_at_call 24; refine hcall.mono ?_; clear hcall y0 y1 y2; rintro e w12 ⟨rfl, hx⟩; have hb12 := bstep hb11 hx; have hd12 := bstep hd11 hx; have ho12 := own_below HO11.out hx; clear HO11 hx; obtain ⟨x0, x1, x2⟩ := HCS.out w12 hb12; have hcall := HIN.out w12 (bstep HB0.out hb12))
      go_upto_region 12 with (go_at_call 35; refine hcall.mono ?_; clear hcall x0 x1 x2; rintro e w13 ⟨v13, rfl, hn13, hx⟩; obtain ⟨A13, c13, rfl, _, _⟩ := ownsRow_form hn13; have hb13 := bstep hb12 hx; have hn13 := own_more hn13 hd12.size; have hd13 := bstep hd12 hx; have ho13 := own_below ho12 hx; clear hx ho12; obtain ⟨x0, x1, x2⟩ := HCS.out w13 hb13)
      have hba := (Below.refl w13.heap.size w13).alloc (Nat.le_refl _) (.cells #[.int .i64 k, .int .i64 a, .slice A fs.length c, .int .i64 k, .int .i64 a, .slice A fs.length c] 48)
      have hf14 := HH.out.at_ (bstep HB0.out (bstep hb13 hba))
      have hf2 : FIn (w13.alloc (.cells #[.int .i64 k, .int .i64 a, .slice A fs.length c, .int .i64 k, .int .i64 a, .slice A fs.length c] 48)) [.mk k a fs, .mk k a fs] (.slice (some ⟨w13.heap.size, 0, none⟩) 2 2) :=
        FIn.blk [.slice A fs.length c, .slice A fs.length c] (heap_alloc_new _ _) rfl rfl (Nat.le_refl _) (by simp [maxLen]) (two_sub (f := .mk k a fs) (g := .mk k a fs) hf14 hf14)
      have hcall := HII2.out _ _ hf2
      have HO13 := Lib.hid (And.intro ho13 hn13)
      clear ho13 hn13 hf2 hf14 hba
      go_upto_region 13 with (go_at_call 35; refine hcall.mono ?_; clear hcall x0 x1 x2; rintro e w15 ⟨v15, rfl, hn15', hx⟩; obtain ⟨A15, c15, rfl, _, _⟩ := ownsRow_form hn15'; clear hn15'; have hx15 := ((Below.refl w13.heap.size w13).alloc (Nat.le_refl _) (.cells #[.int .i64 k, .int .i64 a, .slice A fs.length c, .int .i64 k, .int .i64 a, .slice A fs.length c] 48)).trans (hx.mono (by simp)); have hb15 := bstep hb13 hx15; have hd15 := bstep hd13 hx15; have ho15 := own_below HO13.out.1 hx15; have hn15 := own_below HO13.out.2 hx15; obtain ⟨x0, x1, x2⟩ := HCS.out w15 hb15; have HO15 := Lib.hid (And.intro ho15 hn15); clear hx hx15 ho15 hn15)
      have hba1 := (Below.refl w15.heap.size w15).alloc (Nat.le_refl _) (.cells #[.int .i64 k, .int .i64 a, .slice A fs.length c] 48)
      have hba2 := hba1.alloc hba1.size (.cells #[.int .i64 k, .int .i64 a, .slice A fs.length c, .int .i64 2, .int .i64 0, .slice (some ⟨w15.heap.size, 0, none⟩) 1 1] 48)
      have f0 := HH.out.at_ (bstep HB0.out (bstep hb15 hba2))
      have f1 : FIn _ [.mk k a fs] (.slice (some ⟨w15.heap.size, 0, none⟩) 1 1) := FIn.blk [.slice A fs.length c] ((alloc_old (.cells #[.int .i64 k, .int .i64 a, .slice A fs.length c, .int .i64 2, .int .i64 0, .slice (some ⟨w15.heap.size, 0, none⟩) 1 1] 48) (by simp)).trans (heap_alloc_new w15 (.cells #[.int .i64 k, .int .i64 a, .slice A fs.length c] 48))) rfl rfl (Nat.le_refl _) (by simp [maxLen]) (one_sub (f := .mk k a fs) f0)
      have f2 : FIn ((w15.alloc (.cells #[.int .i64 k, .int .i64 a, .slice A fs.length c] 48)).alloc (.cells #[.int .i64 k, .int .i64 a, .slice A fs.length c, .int .i64 2, .int .i64 0, .slice (some ⟨w15.heap.size, 0, none⟩) 1 1] 48)) [.mk k a fs, .mk 2 0 [.mk k a fs]] (.slice (some ⟨w15.heap.size + 1, 0, none⟩) 2 2) :=
        FIn.blk [.slice A fs.length c, .slice (some ⟨w15.heap.size, 0, none⟩) 1 1] (new_at _ _ _ (by simp)) rfl rfl (Nat.le_refl _) (by simp [maxLen]) (two_sub (f := .mk k a fs) (g := .mk 2 0 [.mk k a fs]) f0 f1)
      have hcall := HII3.out _ _ f2
      have HBA := Lib.hid hba2
      clear f0 f1 f2 hba1 hba2
      go_upto_region 14 with (go_at_call 35; refine hcall.mono ?_; clear hcall x0 x1 x2; rintro e w17 ⟨v17, rfl, hn17, hx⟩; obtain ⟨A17, c17, rfl, _, _⟩ := ownsRow_form hn17; clear hn17; have hx17 := HBA.out.trans (hx.mono (by simp; omega)); have hb17 := bstep hb15 hx17; have hd17 := bstep hd15 hx17; have ho17 := own_below HO15.out.1 hx17; have hn17 := own_below HO15.out.2 hx17; obtain ⟨x0, x1, x2⟩ := HCS.out w17 hb17; have HO17 := Lib.hid (And.intro ho17 hn17); clear hx hx17 ho17 hn17)
      clear HBA HO15 HO13
      have hcall := HAT.out w17 (bstep HB0.out hb17)
      go_upto_region 15 with (go_at_call 36; refine hcall.mono ?_; clear hcall x0 x1 x2; rintro e w18 ⟨v18, rfl, hu18, hx⟩; obtain ⟨A18, c18, rfl, _, _⟩ := ownsRow_form hu18; have hu18 := own_more hu18 hd17.size; have hb18 := bstep hb17 hx; have hd18 := bstep hd17 hx; have ho18 := own_below HO17.out.1 hx; have hn18 := own_below HO17.out.2 hx; have HO18 := Lib.hid (And.intro ho18 (And.intro hn18 hu18)); clear hx ho18 hn18 hu18)
      clear HO17 HII2 HII3 HAT HIN HEG HNF
      go_upto_region 17 with fail
      go_cut [174] (fun x wx => x = .bool false ∧ wx = w18)
      case first =>
        by_cases hc2 : C2 = 0
        · have e2 := HI2.out hc2
          have hc2' : (C2 == 0) = true := by simpa using hc2
          have e2' : ((I2.1 : Int) != (root : Int)) = false := by rw [e2]; simp
          clear e2 hc2
          by_cases hc3 : C3 = 0
          · obtain ⟨e3, e4⟩ := HI3.out hc3
            have hc3' : (C3 == 0) = true := by simpa using hc3
            have e3' : ((I3.1 : Int) != 1) = false := by rw [e3]; rfl
            have e4' : ¬ ((I3.2.length : Int) < (ns.length : Int)) := by omega
            clear e3 e4 hc3
            go_wp2_with fail
            go_meet
            exact ⟨rfl, rfl⟩
          · have hc3' : (C3 == 0) = false := by simpa using hc3
            clear hc3
            go_wp2_with fail
            go_meet
            exact ⟨rfl, rfl⟩
        · have hc2' : (C2 == 0) = false := by simpa using hc2
          clear hc2
          by_cases hc3 : C3 = 0
          · obtain ⟨e3, e4⟩ := HI3.out hc3
            have hc3' : (C3 == 0) = true := by simpa using hc3
            have e3' : ((I3.1 : Int) != 1) = false := by rw [e3]; rfl
            have e4' : ¬ ((I3.2.length : Int) < (ns.length : Int)) := by omega
            clear e3 e4 hc3
            go_wp2_with fail
            go_meet
            exact ⟨rfl, rfl⟩
          · have hc3' : (C3 == 0) = false := by simpa using hc3
            clear hc3
            go_wp2_with fail
            go_meet
            exact ⟨rfl, rfl⟩
      case rest =>
      obtain ⟨rfl, hwc⟩ := hcut
      obtain rfl := hwc.symm
      clear HI2 HI3 hwc
      have ht18 := HT.out.below hd18
      have hz18 : ∀ b, TS w1.heap.size mb sv0 b → (W0.heap.size ≤ b ∧ b < w2.heap.size) ∨ w18.heap.size ≤ b := fun b hb => .inl (HTL.out b hb)
      have HT18 := Lib.hid ht18
      have HZ18 := Lib.hid hz18
      have HLE := Lib.hid (And.intro hb18.size hd18.size)
      clear ht18 hz18
      go_wp2_with fail
      have hmost := HPO.out.1.most
      go_loopw [177] (fun i wr => ∃ (q : Nat) (sv' : Value), q ≤ ns.length ∧ i = .int .i64 q ∧ Tab wr w1.heap.size mb sv' (ns.take (max 2 q)) ∧ (∀ b, TS w1.heap.size mb sv' b → (W0.heap.size ≤ b ∧ b < w2.heap.size) ∨ w18.heap.size ≤ b) ∧ Fr (fun b => W0.heap.size ≤ b ∧ b < w2.heap.size) w18 wr) (fun i _ => ns.length - (intOf i).toNat)
      case atStart => exact ⟨0, sv0, Nat.zero_le _, rfl, by rw [take2 HPO.out.1]; exact HT18.out, HZ18.out, Fr.refl _ _⟩
      case round =>
        obtain ⟨q, sv', hq, rfl, htq, hzq, hfq⟩ := hrel
        by_cases hlt : q < ns.length
        · obtain ⟨b1, o1, rfl, hc1, hc2', hc3, hbq⟩ := (own_rd (own_frS hfq HO18.out.2.1 (fun b hb => hb.2))).nd3 q hlt rfl
          have hpl := play_step HPO.out.1 HPO.out.2.2.2 q hlt
          have htq' := htq.keep ((Fr.refl (fun _ => False) wr).alloc (.cells #[.int .i64 (nd ns q).k, .int .i64 (nd ns q).a, .int .i64 (nd ns q).b] 33)) (fun h => h) (fun h => h) (fun _ _ h => h)
          have hd := do_any w1.heap.size mb sv' _ (nd ns q) _ htq' (take_neg HPO.out.1 (max 2 q))
          simp only [ansV] at hd
          have hfa := hfq.alloc (.cells #[.int .i64 (nd ns q).k, .int .i64 (nd ns q).a, .int .i64 (nd ns q).b] 33)
          generalize nd ns q = X at *
          obtain ⟨xk, xa, xb⟩ := X
          simp only at hc1 hc2' hc3 hd hfa
          generalize doN (ns.take (max 2 q)) ⟨xk, xa, xb⟩ = D at *
          obtain ⟨ns', r⟩ := D
          simp only at hd hpl
          subst hpl
          generalize ((r.getD 0 : Nat) : Int) = z1 at *
          generalize r.isSome = z2 at *
          have HD := Lib.hid hd
          have HZQ := Lib.hid hzq
          have HFA := Lib.hid hfa
          have HSZ := Lib.hid hfq.size
          clear hd hzq hfa hfq htq htq'
          go_wp2_with (go_at_call 22; refine HD.out.mono ?_; rintro e w20 ⟨rfl, haft⟩)
          obtain ⟨sv3, ht3, hf3, hn3⟩ := haft
          have hzn := ts_zone (w := w18) (w2 := w2) HZQ.out (W := wr.alloc (.cells #[.int .i64 xk, .int .i64 xa, .int .i64 xb] 33)) (by have := HSZ.out; simp only [World.alloc, Array.size_push]; omega) hn3
          have hfn := HFA.out.trans hf3 (fun b hb => HZQ.out b hb)
          go_roundw
          case rel => exact ⟨q + 1, sv3, by omega, by go_num, ht3, hzn, hfn⟩
          case measure => simp [intOf]; omega
        · obtain rfl : q = ns.length := by omega
          have h2 := HPO.out.1.two
          rw [List.take_of_length_le (by omega)] at htq
          have hbr : Below W0.heap.size W0 wr := hb18.trans (hfq.below HLE.out.1 (fun b hb => hb.1))
          have hgv := own_frS hfq HO18.out.1 (fun b hb => hb.2)
          have hus := own_frS hfq HO18.out.2.2 (fun b hb => hb.2)
          have hel := eval_in w1.heap.size mb sv' ns root vals A8 n2 c8 wr htq HPO.out.1 HPO.out.2.1 hl2 (own_rd hgv)
          rw [HPO.out.2.2.1] at hel
          have HTQ := Lib.hid htq
          have HGV := Lib.hid hgv
          have HUS := Lib.hid hus
          clear htq hzq hfq hgv hus hlt hq h2
          have hbe := hb18
          clear hbe
          go_upto_region 25 with (go_at_call 21; refine hel.mono ?_; clear hel; rintro e w21 ⟨rfl, hx⟩; have hb21 := bstep hbr hx; have htq := HTQ.out.below hx; have hlen := len_old w1.heap.size mb sv' ns _ htq; have HGV21 := Lib.hid (own_below HGV.out hx); have HUS21 := Lib.hid (own_below HUS.out hx); clear hx htq HTQ HGV HUS)
          by_cases hn0 : n2 = 0
          · have hn0' : ((n2 : Int) == 0) = true := by simp [hn0]
            clear hn0
            go_wp2_with (go_at_call 20; refine hlen.mono ?_; rintro e w22 ⟨rfl, hw⟩; obtain rfl := hw.symm; clear hw)
            go_ret
            exact ⟨rfl, bstep HB0.out hb21⟩
          · have hn0' : ((n2 : Int) == 0) = false := by simpa using hn0
            have hmn := b_i64 hm
            obtain ⟨q, hq, hqn⟩ : ∃ q : Nat, m % (n2 : Int) = q ∧ q < n2 := ⟨(m % (n2 : Int)).toNat, by have := Int.emod_nonneg m (b := (n2 : Int)) (by omega); omega, by have := Int.emod_nonneg m (b := (n2 : Int)) (by omega); have := Int.emod_lt_of_pos m (b := (n2 : Int)) (by omega); omega⟩
            have ham := among_any m (n2 : Int) w21 (by omega) (by omega) hmn.1 hmn.2
            rw [hq] at ham
            clear hn0 hq hmn
            go_upto_region 29 with (go_at_call 20; refine hlen.mono ?_; clear hlen; rintro e w22 ⟨rfl, hw⟩; obtain rfl := hw.symm; clear hw)
            go_upto_region 30 with (go_at_call 37; refine ham.mono ?_; clear ham; rintro e w22 ⟨rfl, hw⟩; obtain rfl := hw)
            go_wp2_with fail
            go_loopw [34, 221] (fun u z wr => ∃ i : Nat, i ≤ U.length ∧ u = .bool (decide ((q : Int) ∈ U.take i)) ∧ z = .int .i64 i ∧ wr = w21) (fun _ z _ => U.length - (intOf z).toNat)
            case atStart => exact ⟨0, Nat.zero_le _, by simp, rfl, rfl⟩
            case round =>
              obtain ⟨i, hi, rfl, rfl, hww⟩ := hrel
              have hul := HUL.out
              by_cases hli : i < U.length
              · obtain ⟨x, hx⟩ : ∃ x, U[i]? = some x := ⟨_, List.getElem?_eq_getElem hli⟩
                obtain ⟨b, off, rfl, y0⟩ := (own_rd HUS21.out).intJ i hli hx
                have ht := take_memJ (a := (q : Int)) hx
                rw [← hww] at y0
                have HTT := Lib.hid ht
                have HWW := Lib.hid hww
                clear hx ht hww
                generalize decide ((q : Int) ∈ U.take i) = u at *
                by_cases hqx : (q : Int) = x
                · rw [decide_eq_true hqx, Bool.or_true] at HTT
                  have hqx' : (x == (q : Int)) = true := by simpa using hqx.symm
                  clear hqx
                  cases u with
                  | true =>
                    go_wp2_with fail
                    go_roundw
                    case rel => exact ⟨i + 1, by omega, by rw [HTT.out], by go_num, HWW.out⟩
                    case measure => first | (simp [intOf]; done) | (simp [intOf]; omega)
                  | false =>
                    go_wp2_with fail
                    go_roundw
                    case rel => exact ⟨i + 1, by omega, by rw [HTT.out], by go_num, HWW.out⟩
                    case measure => first | (simp [intOf]; done) | (simp [intOf]; omega)
                · rw [decide_eq_false hqx, Bool.or_false] at HTT
                  have hqx' : (x == (q : Int)) = false := by simpa using fun e => hqx e.symm
                  clear hqx
                  cases u with
                  | true =>
                    go_wp2_with fail
                    go_roundw
                    case rel => exact ⟨i + 1, by omega, by rw [HTT.out], by go_num, HWW.out⟩
                    case measure => first | (simp [intOf]; done) | (simp [intOf]; omega)
                  | false =>
                    go_wp2_with fail
                    go_roundw
                    case rel => exact ⟨i + 1, by omega, by rw [HTT.out], by go_num, HWW.out⟩
                    case measure => first | (simp [intOf]; done) | (simp [intOf]; omega)
              · obtain rfl : i = U.length := by omega
                rw [List.take_length]
                have hot := HOT.out q
                obtain ⟨u, hu⟩ : ∃ u, u = decide ((q : Int) ∈ U) := ⟨_, rfl⟩
                rw [← hu]
                obtain ⟨g8, c8', e8, hg1, hg2, hg3, hg4, hg5⟩ := own_set1 HGV21.out q hqn
                injection e8 with e81 _ e82
                subst e81
                subst e82
                rw [boolL_get vals q (by omega)] at hg3
                have hg6 := hg5 (.bool (!vals[q]))
                rw [boolL_set] at hg6
                have hwq := hww
                subst hww
                have hbs : Below W0.heap.size W0 (wr.setCell ⟨g8, q, none⟩ (.bool (!vals[q]))) := hb21.trans (below_set hb21.size (Nat.le_trans hb2.size hg1) _)
                have hcall := HEV.out _ (vals.set q (!vals[q])) _ c8 (bstep HB0.out hbs) (by simp [hl2]) hg6
                have hx0 := HCS.out _ hbs
                obtain ⟨x0, x1, x2⟩ := hx0
                generalize hgW : evalF (.mk k a fs) (vals.set q (!vals[q])) = E2 at *
                have HW := Lib.hid hgW
                have HU := Lib.hid hu
                have HOT2 := Lib.hid hot
                have hg7 : q < n2 := hqn
                clear hgW hu hot hg5 hg6 hwq hi hli
                generalize vals[q] = vq at *
                go_upto_region 38 with (go_at_call 24; refine hcall.mono ?_; clear hcall x0 x1 x2; rintro e w30 ⟨rfl, hx⟩; have hb30 := bstep hbs hx)
                cases u with
                | true =>
                  go_wp2_with fail
                  go_ret
                  exact ⟨rfl, bstep HB0.out hb30⟩
                | false =>
                  have hnu : ¬ (q : Int) ∈ U := by simpa using HU.out
                  obtain rfl : E2 = E := HW.out.symm.trans (HOT2.out _ hnu)
                  go_wp2_with fail
                  go_ret
                  exact ⟨ret_bool (by simp), bstep HB0.out hb30⟩
    · have hNF : (300 < (NF : Int)) := by have : ¬ NF ≤ 300 := fun e => hsz (hts.1 e); omega
      go_wp2_with (first | (go_at_call 27; have _t := tok0; refine (HTD.out _ (bstep HB0.out hb2)).mono ?_; clear tok0 x0 x1 x2; rintro e w4 ⟨v4, rfl, ⟨sv4, rfl, hfo⟩, hx⟩; have hrc := rcheck_any hfo.fin w4 tf.k tf.a n2 (Below.refl _ _); rw [tf.eta, htc] at hrc; obtain ⟨A4, c4, rfl, _, _⟩ := hfo.form; have hb4 := bstep hb2 hx; have hd4 := (Below.refl w2.heap.size w2).trans hx; obtain ⟨x0, x1, x2⟩ := HCS.out w4 hb4; clear hfo hx) | (go_at_call 26; refine hrc.mono ?_; clear hrc x0 x1 x2; rintro e w5 ⟨rfl, hx⟩; have hb5 := bstep hb4 hx; have hd5 := bstep hd4 hx; obtain ⟨x0, x1, x2⟩ := HCS.out w5 hb5; clear hx) | (go_at_call 27; refine (HTD.out _ (bstep HB0.out hb5)).mono ?_; clear x0 x1 x2; rintro e w6 ⟨v6, rfl, ⟨sv6, rfl, hfo⟩, hx⟩; have hrn := nodes_any hfo.fin w6 tf.k tf.a 300 (Below.refl _ _) (by omega); rw [tf.eta, hgN] at hrn; obtain ⟨A6, c6, rfl, _, _⟩ := hfo.form; have hb6 := bstep hb5 hx; have hd6 := bstep hd5 hx; clear hfo hx) | (go_at_call 34; refine hrn.mono ?_; clear hrn; rintro e w7 ⟨rfl, hx⟩; have hb7 := bstep hb6 hx; have hd7 := bstep hd6 hx; clear hx))
      go_ret
      exact ⟨rfl, bstep HB0.out hb7⟩
  · have hC' : (checkF (.mk k a fs) n2 != 0) = true := by simpa using hC
    go_wp2_with (first | (go_at_call 27; have _t := tok0; refine (HTD.out _ (bstep HB0.out hb2)).mono ?_; clear tok0 x0 x1 x2; rintro e w4 ⟨v4, rfl, ⟨sv4, rfl, hfo⟩, hx⟩; have hrc := rcheck_any hfo.fin w4 tf.k tf.a n2 (Below.refl _ _); rw [tf.eta, htc] at hrc; obtain ⟨A4, c4, rfl, _, _⟩ := hfo.form; have hb4 := bstep hb2 hx; have hd4 := (Below.refl w2.heap.size w2).trans hx; obtain ⟨x0, x1, x2⟩ := HCS.out w4 hb4; clear hfo hx) | (go_at_call 26; refine hrc.mono ?_; clear hrc x0 x1 x2; rintro e w5 ⟨rfl, hx⟩; have hb5 := bstep hb4 hx; have hd5 := bstep hd4 hx; obtain ⟨x0, x1, x2⟩ := HCS.out w5 hb5; clear hx) | (go_at_call 27; refine (HTD.out _ (bstep HB0.out hb5)).mono ?_; clear x0 x1 x2; rintro e w6 ⟨v6, rfl, ⟨sv6, rfl, hfo⟩, hx⟩; have hrn := nodes_any hfo.fin w6 tf.k tf.a 300 (Below.refl _ _) (by omega); rw [tf.eta, hgN] at hrn; obtain ⟨A6, c6, rfl, _, _⟩ := hfo.form; have hb6 := bstep hb5 hx; have hd6 := bstep hd5 hx; clear hfo hx) | (go_at_call 34; refine hrn.mono ?_; clear hrn; rintro e w7 ⟨rfl, hx⟩; have hb7 := bstep hb6 hx; have hd7 := bstep hd6 hx; clear hx))
    go_ret
    exact ⟨rfl, bstep HB0.out hb5⟩
end Go.Proofs.Ytdpnififbpoagaa
