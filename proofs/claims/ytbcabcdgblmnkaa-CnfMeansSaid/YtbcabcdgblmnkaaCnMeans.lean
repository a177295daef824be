/- The law CnfMeans. -/
import Derived.Test.YtbcabcdgblmnkaaCnAwake
import Derived.Test.YtbcabcdgblmnkaaCnExt
import Derived.Test.YtbcabcdgblmnkaaCnSmall
import Derived.Test.YtbcabcdgblmnkaaFmREval
import Derived.Test.YtbcabcdgblmnkaaClLaw1
namespace Go.Proofs.Ytbcabcdgblmnkaa
open Go.RowKit
set_option linter.unusedVariables false
set_option linter.unusedSimpArgs false

theorem canon_any' (xs : List Int) (t : List Bool) : (canonI xs).any (holdL t) = xs.any (holdL t) := by
  rw [Bool.eq_iff_iff, List.any_eq_true, List.any_eq_true]
  exact ⟨fun ⟨x, hx, h⟩ => ⟨x, (canonI_mem xs x).1 hx, h⟩, fun ⟨x, hx, h⟩ => ⟨x, (canonI_mem xs x).2 hx, h⟩⟩
theorem own_setB {w : World} {B : Nat} {e : TypeId} {n : Nat} {v : Value} {xs : List Value} (h : w.ownsRow B e 1 v n xs) (k : Nat) (hk : k < n) :
    ∃ g c, v = .slice (some ⟨g, 0, none⟩) n c ∧ B ≤ g ∧ g < w.heap.size ∧ w.cell? ⟨g, k, none⟩ = xs[k]? ∧ w.frozen? ⟨g, k, none⟩ = false ∧ ∀ u, (w.setCell ⟨g, k, none⟩ u).ownsRow B e 1 v n (xs.set k u) := by
  rcases h.2 with ⟨_, h0⟩ | ⟨g, cap, cur, rfl, hB, hh, hnc, hcm, hs, ht⟩
  · omega
  · refine ⟨g, cap, rfl, hB, lt_of_blk hh, ?_, frozen_of_blk hh k, fun u => ⟨by rw [List.length_set]; exact h.1, .inr ⟨g, cap, cur.setIfInBounds k u, rfl, hB, set_blk hh k u, hnc, hcm, by rw [Array.size_setIfInBounds]; exact hs, ?_⟩⟩⟩
    · rw [cell_of_blk hh, ← ht, List.getElem?_take_of_lt (by omega), Array.getElem?_toList]
    · rw [Array.toList_setIfInBounds, List.take_set, ht]
theorem boolL_setB (vals : List Bool) (k : Nat) (b : Bool) : (boolL vals).set k (.bool b) = boolL (vals.set k b) := by simp [boolL, List.map_set]
theorem boolL_getB (vals : List Bool) (k : Nat) (hk : k < vals.length) : (boolL vals)[k]? = some (.bool (vals.getD k false)) := by
  rw [List.getD_eq_getElem?_getD, List.getElem?_eq_getElem hk]
  simp [boolL, hk]
theorem raw_len (ns : List Nd) (root : Nat) : (rawN ns root).length ≤ 3 * (partsN ns root).length + 1 := by
  rw [rawN, List.length_append, flat_len]
  have : (lastN ns (partsN ns root) root).length ≤ 1 := by
    unfold lastN
    split
    · simp
    · split
      · simp
      · simp
  omega
theorem small_fit (f : Fm) (vals : List Bool) (hs : shapeF f vals.length = true) (hsz : sizeF f ≤ 60) : (partsN (placeF f ns0).1 (placeF f ns0).2).length ≤ 200 := by
  have h := (place_ok f vals ns0 good0 hs (by simp [ns0]; omega)).len
  have := partsN_length (placeF f ns0).1 (placeF f ns0).2
  simp [ns0] at h this ⊢
  omega
set_option maxRecDepth 100000 in
set_option maxHeartbeats 16000000 in
theorem cmeans_law {w : World} (k a : Int) (fs : List Fm) (sv : Value) (h : FIn w fs sv) (A2 : Option Addr) (n2 c2 : Nat) (vals : List Bool) (hl2 : vals.length = n2) (hnc2 : n2 ≤ c2) (hc2 : c2 * 1 ≤ 140737488351232) (hr2 : Rd w 1 A2 n2 (boolL vals)) (A3 : Option Addr) (n3 c3 : Nat) (more : List Bool) (hl3 : more.length = n3) (hnc3 : n3 ≤ c3) (hc3 : c3 * 1 ≤ 140737488351232) (hr3 : Rd w 1 A3 n3 (boolL more)) :
    Calls Try.prog 12 #[.agg #[.int .i64 k, .int .i64 a, sv], .slice A2 n2 c2, .slice A3 n3 c3] w fun e w' => e = .returned (.bool true) ∧ Below w.heap.size w w' := by
  obtain ⟨i0, hinf, hz0, hz1, hz2⟩ := info_parts info_bool
  have hb0 : Below w.heap.size w (w.alloc (.cells #[.int .i64 k, .int .i64 a, sv] 58)) := (Below.refl _ _).alloc (Nat.le_refl _) _
  have hbox := heap_alloc_new w (.cells #[.int .i64 k, .int .i64 a, sv] 58)
  have htd := fun W hW => told_top h W k a hW
  have hsm := fun W hW => small18_any h W k a hW
  have htc := told_check (.mk k a fs) n2
  have haw := awake18_any
  have hh := h
  obtain ⟨A, c, rfl, _, _⟩ := h.form
  have HH := Lib.hid hh
  have hts : sizeF (.mk k a fs) ≤ 60 → toldT (.mk k a fs) = .mk k a fs := fun h1 => toldT_same _ (by omega)
  generalize hgT : toldT (.mk k a fs) = tf at *
  have HTD := Lib.hid htd
  have HSM := Lib.hid hsm
  have HAW := Lib.hid haw
  have HTS := Lib.hid hts
  clear htd hsm haw h hh hts hgT
  go_enter Try.func12, Try.ntmps12
  go_upto_region 1 with fail
  obtain ⟨W0, hW0⟩ : ∃ W, W = w.alloc (.cells #[.int .i64 k, .int .i64 a, .slice A fs.length c] 58) := ⟨_, rfl⟩
  rw [← hW0] at hb0 hbox ⊢
  clear hW0
  have hcs : ∀ W', Below W0.heap.size W0 W' → W'.cell? ⟨w.heap.size, 0, none⟩ = some (.int .i64 k) ∧ W'.cell? ⟨w.heap.size, 1, none⟩ = some (.int .i64 a) ∧ W'.cell? ⟨w.heap.size, 2, none⟩ = some (.slice A fs.length c) := fun W' hW' => by
    have h1 := (hW'.block _ (lt_of_blk hbox)).trans hbox
    exact ⟨cell_of_blk h1 0, cell_of_blk h1 1, cell_of_blk h1 2⟩
  obtain ⟨x0, x1, x2⟩ := hcs W0 (Below.refl _ _)
  have HR2 := Lib.hid hr2
  have HR3 := Lib.hid hr3
  have HB0 := Lib.hid hb0
  have HCS := Lib.hid hcs
  have hlt0 : w.heap.size < W0.heap.size := lt_of_blk hbox
  clear hcs hbox hb0 hr2 hr3
  by_cases hC : checkF (.mk k a fs) n2 = 0
  · have hd := decide_eq_true hC
    by_cases hsz : sizeF (.mk k a fs) ≤ 60
    · have hsm := HSM.out
      rw [decide_eq_true hsz] at hsm
      have HSM2 := Lib.hid hsm
      have HTSAME := Lib.hid (HTS.out hsz)
      rw [hC] at htc
      have hat := place_atoms (.mk k a fs) ns0 n2 (checkF_great hC).2 (atoms0 n2)
      have hok := place_ok (.mk k a fs) vals ns0 good0 (by rw [hl2]; exact (checkF_great hC).2) (by simp [ns0]; omega)
      have hfit := small_fit (.mk k a fs) vals (by rw [hl2]; exact (checkF_great hC).2) hsz
      have hcl := fun W hW => clausify_any HH.out W k a n2 (by omega) hW hC
      have hex := fun W A' c' (hW : Below w.heap.size w W) hc' hr' => extend_any HH.out vals A' n2 c' hl2 hc' (by omega) W k a (by omega) hW hr'
      simp only [hC, if_true] at hex
      have hre := fun W w0 A' c' (hfi : FIn w0 fs (.slice A' fs.length c')) A4 c4 hr' (hW : Below w0.heap.size w0 W) => reval_any hfi vals A4 n2 c4 hl2 hr' W k a hW (checkF_great hC).2
      have hok2 : Good (placeF (.mk k a fs) ns0).1 ∧ (placeF (.mk k a fs) ns0).2 < (placeF (.mk k a fs) ns0).1.length ∧ ev (placeF (.mk k a fs) ns0).1 vals (placeF (.mk k a fs) ns0).2 = evalF (.mk k a fs) vals := ⟨hok.good, hok.lt, hok.val⟩
      clear hok hsm HSM HTS hd hC hsz
      generalize placeF (.mk k a fs) ns0 = P at *
      obtain ⟨ns, root⟩ := P
      simp only at hat hok2 hfit hcl hex
      obtain ⟨hG, hroot, hval⟩ := hok2
      have htr := truths_ok (vals := vals) hG hroot (by rw [hl2]; exact hat)
      have hmean := fun t (ht : CnOk ns root vals t) => clauses_mean ht
      rw [hval] at hmean
      have hrl := raw_lits htr
      rw [hl2] at hrl
      have hxl := raw_len ns root
      have htl : (truthsN ns root vals).length = (partsN ns root).length + n2 := by rw [htr.len, hl2]
      generalize hgE : evalF (.mk k a fs) vals = E at *
      have HGE := Lib.hid hgE
      have HCL := Lib.hid hcl
      have HEX := Lib.hid hex
      have HRE := Lib.hid hre
      have HMEAN := Lib.hid hmean
      have HTR := Lib.hid htr
      have HRL := Lib.hid hrl
      clear hgE hcl hex hre hmean htr hrl hat hG hroot hval
      generalize hgT : truthsN ns root vals = T at *
      have HGT := Lib.hid hgT
      clear hgT
      generalize hgm : (partsN ns root).length = m at *
      have HGM := Lib.hid hgm
      have HTL := Lib.hid htl
      have hm200 : m ≤ 200 := hfit
      clear hgm htl hfit
      generalize hgX : rawN ns root = XS at *
      have HGX := Lib.hid hgX
      clear hgX
      go_upto_region 3 with (first | (go_at_call 33; refine (HTD.out _ HB0.out).mono ?_; rintro e w2 ⟨v2, rfl, ⟨sv2, rfl, hfo⟩, hx⟩; have hrc := rcheck_any hfo.fin w2 tf.k tf.a n2 (Below.refl _ _); rw [tf.eta, htc] at hrc; obtain ⟨A4, c4, rfl, _, _⟩ := hfo.form; clear hfo) | (go_at_call 32; refine hrc.mono ?_; rintro e w3 ⟨rfl, hx3⟩; have hb3 := bstepP hx hx3; clear hx hx3 hrc x0 x1 x2; obtain ⟨x0, x1, x2⟩ := HCS.out w3 hb3) | (go_at_call 35; refine (HSM2.out _ (bstepP HB0.out hb3)).mono ?_; rintro e w4 ⟨rfl, hx⟩; have hb4 := bstepP hb3 hx; clear hx x0 x1 x2))
      obtain ⟨x0, x1, x2⟩ := HCS.out w4 hb4
      have hcall := HCL.out w4 (bstepP HB0.out hb4)
      go_upto_region 4 with (go_at_call 31; refine hcall.mono ?_; clear hcall x0 x1 x2; rintro e w5 ⟨v5, vs, rfl, hr5, hb5⟩; obtain ⟨A5, c5, rfl, _, _⟩ := ownsRow_form hr5.own)
      have hrb := hr5.below ((Below.refl w5.heap.size w5).alloc (Nat.le_refl _) (.cells #[.int .i64 (m : Int), .slice A5 vs.length c5] 60))
      have hb6 := (bstepP hb4 hb5).alloc (bstepP hb4 hb5).size (.cells #[.int .i64 (m : Int), .slice A5 vs.length c5] 60)
      have hcb := heap_alloc_new w5 (.cells #[.int .i64 (m : Int), .slice A5 vs.length c5] 60)
      obtain ⟨W6, hW6⟩ : ∃ W, W = w5.alloc (.cells #[.int .i64 (m : Int), .slice A5 vs.length c5] 60) := ⟨_, rfl⟩
      rw [← hW6] at hrb hb6 hcb ⊢
      have hcn : ∀ W', Below W6.heap.size W6 W' → W'.cell? ⟨w5.heap.size, 0, none⟩ = some (.int .i64 (m : Int)) ∧ W'.cell? ⟨w5.heap.size, 1, none⟩ = some (.slice A5 vs.length c5) := fun W' hW' => by
        have h1 := (hW'.block _ (lt_of_blk hcb)).trans hcb
        exact ⟨(cell_of_blk h1 0).trans rfl, (cell_of_blk h1 1).trans rfl⟩
      have HRW := Lib.hid hrb
      have HB6 := Lib.hid hb6
      have HCN := Lib.hid hcn
      have HR26 := Lib.hid (HR2.out.below (bstepP HB0.out hb6))
      have hcs6 := fun W' (hW' : Below W6.heap.size W6 W') => HCS.out W' (bstepP HB6.out hW')
      have HCS6 := Lib.hid hcs6
      have hlt6 : w.heap.size < W6.heap.size := Nat.lt_of_lt_of_le hlt0 hb6.size
      obtain ⟨x0, x1, x2⟩ := hcs6 W6 (Below.refl _ _)
      clear hrb hcb hcn hW6 hr5 hb5 hb4 hb6 hcs6
      go_upto_region 6 with fail
      go_cut [9, 10] (fun x y wx => ∃ A7 c7, x = .slice A7 (m + n2) c7 ∧ y = .int .i64 0 ∧ wx.ownsRow W6.heap.size 4 1 (.slice A7 (m + n2) c7) (m + n2) (boolL T) ∧ Below W6.heap.size W6 wx)
      case first =>
        go_region_law (first | (refine stepRS W6.heap.size (W6.drew.alloc (.cells #[] 4)) 1 4 rfl _ _ 23 rfl i0 _ 1 Try.underlying23 hinf hz0 hz1 hz2 rfl (by decide) (by decide) (.slice (some ⟨W6.heap.size, 0, none⟩) 0 0) 0 [] (by simp [Act.eval, Act.put]) (by simp) (own_emptyS _ _ _ _ (Nat.le_refl _)) A2 n2 c2 _ (by simp [Act.eval, Act.put]) ((HR26.out.drew).alloc _) (boolL_one vals) (by omega) ?_; intro v8 w8 hown8 hg8; have hb8 := app_below (Nat.le_refl _) hg8; obtain ⟨A8, c8, rfl, hnc8, hr8⟩ := ownsRow_form hown8; simp only [List.nil_append, Nat.zero_add] at hr8 hnc8; obtain ⟨o0, o1, o2⟩ := HCS6.out w8 hb8) | (go_simp; go_at_call 37; refine (HEX.out w8 A8 c8 (bstepP HB0.out (bstepP HB6.out hb8)) hnc8 hr8).mono ?_; rintro e w9 ⟨v9, rfl, ho9, hx⟩; rw [HTL.out] at ho9; obtain ⟨A9, c9, rfl, _, _⟩ := ownsRow_form ho9; have ho9' := own_more ho9 hb8.size; have hb9 := bstepP hb8 hx))
        all_goals (go_wp2_with fail; go_meet; exact ⟨_, _, rfl, rfl, ho9', hb9⟩)
      case rest =>
      obtain ⟨A7, c7, rfl, rfl, ho7, hb7⟩ := hcut
      obtain ⟨w7, rfl⟩ : ∃ x, x = wc := ⟨_, rfl⟩
      have HO7 := Lib.hid ho7
      have HB7 := Lib.hid hb7
      clear ho7 hb7 x0 x1 x2
      go_wp2_with fail
      go_loopw [11] (fun x wr => ∃ (q : Nat) (t : List Bool), q ≤ m ∧ x = .int .i64 (q : Int) ∧ t.length = m + n2 ∧ (∀ j, m ≤ j → t.getD j false = T.getD j false) ∧ wr.ownsRow W6.heap.size 4 1 (.slice A7 (m + n2) c7) (m + n2) (boolL t) ∧ Below W6.heap.size W6 wr) (fun x _ => m - (intOf x).toNat)
      case atStart => exact ⟨0, T, Nat.zero_le _, rfl, HTL.out, fun _ _ => rfl, HO7.out, HB7.out⟩
      case round =>
        obtain ⟨q, t, hq, rfl, htl, hback, hot, hbk⟩ := hrel
        obtain ⟨x0, x1⟩ := HCN.out wr hbk
        have HTLT := Lib.hid htl
        have HBACK := Lib.hid hback
        have HOT := Lib.hid hot
        have HBK := Lib.hid hbk
        clear htl hback hot hbk
        by_cases h1 : q < m
        · have h1' : (q : Int) < (m : Int) := by omega
          have h2' : (q : Int) < (m : Int) + (n2 : Int) := by omega
          by_cases h3 : q < n3
          · have h3' : (q : Int) < (n3 : Int) := by omega
            obtain ⟨g, cc, e7, hg1, hg2, hg3, hg4, hg5⟩ := own_setB HOT.out q (by omega)
            injection e7 with e71 _ e72
            subst e71
            subst e72
            rw [boolL_getB t q (by rw [HTLT.out]; omega)] at hg3
            obtain ⟨b3, o3, u3, rfl, hu3, hc3'⟩ := (HR3.out.below (bstepP HB0.out (bstepP HB6.out HBK.out))).at_ h3
            rw [boolL_getB more q (by omega)] at hu3
            obtain rfl := Option.some.inj hu3
            have hb33 := World.block_lt_of_cell? _ _ hc3'
            have HSET := Lib.hid hg5
            clear hg5 hu3
            generalize hgx : t.getD q false = x at *
            generalize more.getD q false = y at *
            clear hgx
            go_upto_region 10 with fail
            go_region
            go_wp2_with fail
            first | (go_roundw; case rel => exact ⟨q + 1, t.set q (x != y), by omega, by go_num, by rw [List.length_set]; exact HTLT.out, fun j hj => by rw [← HBACK.out j hj, List.getD_eq_getElem?_getD, List.getD_eq_getElem?_getD, List.getElem?_set_ne (by omega)], by rw [← boolL_setB]; exact HSET.out (.bool (x != y)), below_drewA (HBK.out.trans (cbelow_set HBK.out.size hg1 _))⟩; case measure => simp [intOf]; omega) | exact ⟨⟨q + 1, t.set q (x != y), by omega, by go_num, by rw [List.length_set]; exact HTLT.out, fun j hj => by rw [← HBACK.out j hj, List.getD_eq_getElem?_getD, List.getD_eq_getElem?_getD, List.getElem?_set_ne (by omega)], by rw [← boolL_setB]; exact HSET.out (.bool (x != y)), below_drewA (HBK.out.trans (cbelow_set HBK.out.size hg1 _))⟩, by simp [intOf]; omega⟩
          · have h3' : ¬ (q : Int) < (n3 : Int) := by omega
            clear h3
            go_wp2_with fail
            obtain ⟨w8, rfl⟩ : ∃ x, x = wr := ⟨_, rfl⟩
            go_loopw [76] (fun x wr => ∃ q2 : Nat, q2 ≤ vs.length ∧ x = .int .i64 (q2 : Int) ∧ (∀ j, j < q2 → (XS.getD j []).any (holdL t) = true) ∧ Below w8.heap.size w8 wr) (fun x _ => vs.length - (intOf x).toNat)
            case atStart => exact ⟨0, Nat.zero_le _, rfl, fun j hj => by omega, Below.refl _ _⟩
            case round =>
              obtain ⟨q2, hq2, rfl, hall, hbk⟩ := hrel
              clear x0 x1
              have hb6r := bstepP HBK.out hbk
              have HBR := Lib.hid hbk
              have HB6R := Lib.hid hb6r
              have HALL := Lib.hid hall
              have hvx : vs.length = XS.length := by rw [HRW.out.len, List.length_map]
              have HVX := Lib.hid hvx
              have hvl6 : vs.length ≤ 601 := by omega
              clear hbk hb6r hall hvx
              by_cases hlt : q2 < vs.length
              · have hltx : q2 < XS.length := by rw [← HVX.out]; exact hlt
                obtain ⟨u, hu⟩ : ∃ u, vs[q2]? = some u := ⟨_, List.getElem?_eq_getElem hlt⟩
                have hys : (XS.map canonI)[q2]? = some (canonI (XS.getD q2 [])) := by
                  rw [List.getElem?_map, List.getD_eq_getElem?_getD, List.getElem?_eq_getElem hltx]
                  rfl
                have hrs := HRW.out.below HB6R.out
                obtain ⟨Au, cu, rfl, hcu1, hcu2, hru⟩ := (hrs.rows q2 u _ hu hys).rd
                obtain ⟨b5, o5, u', rfl, hu', y0⟩ := (cown_rd hrs.own).at_ hlt
                rw [hu] at hu'
                obtain rfl := Option.some.inj hu'
                have hmem : XS.getD q2 [] ∈ XS := by
                  rw [List.getD_eq_getElem?_getD, List.getElem?_eq_getElem hltx]
                  simp
                have hlit := HRL.out _ hmem
                have hcl3 := canonI_len (XS.getD q2 [])
                have hhd := holdsR_any (canonI (XS.getD q2 [])) Au _ cu t A7 (m + n2) c7 wr rfl (by have := hlit.1; unfold maxLen; omega) hru (fun l hl => by have := hlit.2 l ((canonI_mem _ l).1 hl); unfold IsLit; omega) HTLT.out (by unfold maxLen; omega) (own_below HOT.out HBR.out |> cown_rd)
                rw [canon_any'] at hhd
                obtain ⟨z0, z1⟩ := HCN.out wr HB6R.out
                have hstep : ∀ b, (XS.getD q2 []).any (holdL t) = b → b = true → ∀ j, j < q2 + 1 → (XS.getD j []).any (holdL t) = true := fun b hb hb2 j hj => by
                  rcases Nat.lt_or_ge j q2 with h' | h'
                  · exact HALL.out j h'
                  · obtain rfl : j = q2 := by omega
                    rw [hb, hb2]
                have HSTEP := Lib.hid hstep
                clear hrs hu hys hmem hlit hcl3 hstep hltx hru hcu1 hcu2
                generalize hgb : (XS.getD q2 []).any (holdL t) = b at *
                have HGB := Lib.hid hgb
                clear hgb
                generalize (canonI (XS.getD q2 [])).length = ln at *
                cases b with
                | true =>
                  go_wp2_with (go_at_call 20; refine hhd.mono ?_; clear hhd; rintro e w9 ⟨rfl, hw⟩; obtain rfl := hw.symm; clear hw)
                  go_roundw
                  case rel => exact ⟨q2 + 1, by omega, by go_num, HSTEP.out true rfl rfl, HBR.out⟩
                  case measure => simp [intOf]; omega
                | false =>
                  go_wp2_with (first | (go_at_call 20; refine hhd.mono ?_; clear hhd; rintro e w9 ⟨rfl, hw⟩; obtain rfl := hw.symm; clear hw) | (go_at_call 34; refine (HAW.out _).mono ?_; rintro e w10 ⟨rfl, hx⟩; have hb10 := bstepP HB6R.out hx; clear hx))
                  go_ret
                  exact ⟨rfl, bstepP HB0.out (bstepP HB6.out hb10)⟩
              · obtain rfl : q2 = vs.length := by omega
                have hE : E = true := by
                  have ht := HTR.out
                  refine HMEAN.out t ⟨ht.good, ht.rt, ht.atoms, by rw [HTLT.out, HGM.out, hl2], fun j hj => ?_⟩ ?_
                  · rw [← ht.back j hj, HGM.out]
                    exact HBACK.out _ (by omega)
                  · rw [List.all_eq_true]
                    intro x hx
                    obtain ⟨i, hi, e⟩ := List.getElem_of_mem hx
                    have := HALL.out i (by rw [HVX.out]; exact hi)
                    rw [List.getD_eq_getElem?_getD, List.getElem?_eq_getElem hi, Option.getD_some, e] at this
                    exact this
                have HE := Lib.hid hE
                have p1 := HTSAME.out
                subst p1
                have htf : ∀ W', Below w.heap.size w W' → Calls Try.prog 33 #[.agg #[.int .i64 k, .int .i64 a, .slice A fs.length c]] W' fun e w' => ∃ sv, e = .returned (.agg #[.int .i64 k, .int .i64 a, sv]) ∧ FOn (fun b => W'.heap.size ≤ b) w' fs sv ∧ Below W'.heap.size W' w' := fun W' hW' =>
                  (HTD.out W' hW').mono (fun e w' ⟨v, e1, ⟨sv, e2, hfo⟩, hb⟩ => ⟨sv, by subst e1; subst e2; rfl, hfo, hb⟩)
                have HTF := Lib.hid htf
                clear htf hE HTD HMEAN HRL HTR HALL HSM2
                have hbw := bstepP HB6.out HB6R.out
                go_wp2_with (first | (go_at_call 34; refine (HAW.out _).mono ?_; rintro e w10 ⟨rfl, hx⟩; have hb10 := bstepP hbw hx; clear hx; obtain ⟨f0, f1, f2⟩ := HCS.out w10 hb10) | (go_at_call 33; refine (HTF.out _ (bstepP HB0.out hb10)).mono ?_; rintro e w11 ⟨sv11, rfl, hfo11, hx⟩; have hb11 := bstepP hb10 hx; obtain ⟨A11, c11, rfl, _, _⟩ := hfo11.form; have hre := HRE.out w11 w11 A11 c11 hfo11.fin A2 c2 (HR2.out.below (bstepP HB0.out hb11)) (Below.refl _ _); rw [HE.out] at hre; clear hfo11 hx) | (go_at_call 39; refine hre.mono ?_; clear hre; rintro e w12 ⟨rfl, hx⟩; have hb12 := bstepP hb11 hx; clear hx))
                go_ret
                exact ⟨by first | rfl | simp, bstepP HB0.out hb12⟩
        · have h1' : ¬ (q : Int) < (m : Int) := by omega
          clear h1
          go_wp2_with fail
          obtain ⟨w8, rfl⟩ : ∃ x, x = wr := ⟨_, rfl⟩
          go_loopw [76] (fun x wr => ∃ q2 : Nat, q2 ≤ vs.length ∧ x = .int .i64 (q2 : Int) ∧ (∀ j, j < q2 → (XS.getD j []).any (holdL t) = true) ∧ Below w8.heap.size w8 wr) (fun x _ => vs.length - (intOf x).toNat)
          case atStart => exact ⟨0, Nat.zero_le _, rfl, fun j hj => by omega, Below.refl _ _⟩
          case round =>
            obtain ⟨q2, hq2, rfl, hall, hbk⟩ := hrel
            clear x0 x1
            have hb6r := bstepP HBK.out hbk
            have HBR := Lib.hid hbk
            have HB6R := Lib.hid hb6r
            have HALL := Lib.hid hall
            have hvx : vs.length = XS.length := by rw [HRW.out.len, List.length_map]
            have HVX := Lib.hid hvx
            have hvl6 : vs.length ≤ 601 := by omega
            clear hbk hb6r hall hvx
            by_cases hlt : q2 < vs.length
            · have hltx : q2 < XS.length := by rw [← HVX.out]; exact hlt
              obtain ⟨u, hu⟩ : ∃ u, vs[q2]? = some u := ⟨_, List.getElem?_eq_getElem hlt⟩
              have hys : (XS.map canonI)[q2]? = some (canonI (XS.getD q2 [])) := by
                rw [List.getElem?_map, List.getD_eq_getElem?_getD, List.getElem?_eq_getElem hltx]
                rfl
              have hrs := HRW.out.below HB6R.out
              obtain ⟨Au, cu, rfl, hcu1, hcu2, hru⟩ := (hrs.rows q2 u _ hu hys).rd
              obtain ⟨b5, o5, u', rfl, hu', y0⟩ := (cown_rd hrs.own).at_ hlt
              rw [hu] at hu'
              obtain rfl := Option.some.inj hu'
              have hmem : XS.getD q2 [] ∈ XS := by
                rw [List.getD_eq_getElem?_getD, List.getElem?_eq_getElem hltx]
                simp
              have hlit := HRL.out _ hmem
              have hcl3 := canonI_len (XS.getD q2 [])
              have hhd := holdsR_any (canonI (XS.getD q2 [])) Au _ cu t A7 (m + n2) c7 wr rfl (by have := hlit.1; unfold maxLen; omega) hru (fun l hl => by have := hlit.2 l ((canonI_mem _ l).1 hl); unfold IsLit; omega) HTLT.out (by unfold maxLen; omega) (own_below HOT.out HBR.out |> cown_rd)
              rw [canon_any'] at hhd
              obtain ⟨z0, z1⟩ := HCN.out wr HB6R.out
              have hstep : ∀ b, (XS.getD q2 []).any (holdL t) = b → b = true → ∀ j, j < q2 + 1 → (XS.getD j []).any (holdL t) = true := fun b hb hb2 j hj => by
                rcases Nat.lt_or_ge j q2 with h' | h'
                · exact HALL.out j h'
                · obtain rfl : j = q2 := by omega
                  rw [hb, hb2]
              have HSTEP := Lib.hid hstep
              clear hrs hu hys hmem hlit hcl3 hstep hltx hru hcu1 hcu2
              generalize hgb : (XS.getD q2 []).any (holdL t) = b at *
              have HGB := Lib.hid hgb
              clear hgb
              generalize (canonI (XS.getD q2 [])).length = ln at *
              cases b with
              | true =>
                go_wp2_with (go_at_call 20; refine hhd.mono ?_; clear hhd; rintro e w9 ⟨rfl, hw⟩; obtain rfl := hw.symm; clear hw)
                go_roundw
                case rel => exact ⟨q2 + 1, by omega, by go_num, HSTEP.out true rfl rfl, HBR.out⟩
                case measure => simp [intOf]; omega
              | false =>
                go_wp2_with (first | (go_at_call 20; refine hhd.mono ?_; clear hhd; rintro e w9 ⟨rfl, hw⟩; obtain rfl := hw.symm; clear hw) | (go_at_call 34; refine (HAW.out _).mono ?_; rintro e w10 ⟨rfl, hx⟩; have hb10 := bstepP HB6R.out hx; clear hx))
                go_ret
                exact ⟨rfl, bstepP HB0.out (bstepP HB6.out hb10)⟩
            · obtain rfl : q2 = vs.length := by omega
              have hE : E = true := by
                have ht := HTR.out
                refine HMEAN.out t ⟨ht.good, ht.rt, ht.atoms, by rw [HTLT.out, HGM.out, hl2], fun j hj => ?_⟩ ?_
                · rw [← ht.back j hj, HGM.out]
                  exact HBACK.out _ (by omega)
                · rw [List.all_eq_true]
                  intro x hx
                  obtain ⟨i, hi, e⟩ := List.getElem_of_mem hx
                  have := HALL.out i (by rw [HVX.out]; exact hi)
                  rw [List.getD_eq_getElem?_getD, List.getElem?_eq_getElem hi, Option.getD_some, e] at this
                  exact this
              have HE := Lib.hid hE
              have p1 := HTSAME.out
              subst p1
              have htf : ∀ W', Below w.heap.size w W' → Calls Try.prog 33 #[.agg #[.int .i64 k, .int .i64 a, .slice A fs.length c]] W' fun e w' => ∃ sv, e = .returned (.agg #[.int .i64 k, .int .i64 a, sv]) ∧ FOn (fun b => W'.heap.size ≤ b) w' fs sv ∧ Below W'.heap.size W' w' := fun W' hW' =>
                (HTD.out W' hW').mono (fun e w' ⟨v, e1, ⟨sv, e2, hfo⟩, hb⟩ => ⟨sv, by subst e1; subst e2; rfl, hfo, hb⟩)
              have HTF := Lib.hid htf
              clear htf hE HTD HMEAN HRL HTR HALL HSM2
              have hbw := bstepP HB6.out HB6R.out
              go_wp2_with (first | (go_at_call 34; refine (HAW.out _).mono ?_; rintro e w10 ⟨rfl, hx⟩; have hb10 := bstepP hbw hx; clear hx; obtain ⟨f0, f1, f2⟩ := HCS.out w10 hb10) | (go_at_call 33; refine (HTF.out _ (bstepP HB0.out hb10)).mono ?_; rintro e w11 ⟨sv11, rfl, hfo11, hx⟩; have hb11 := bstepP hb10 hx; obtain ⟨A11, c11, rfl, _, _⟩ := hfo11.form; have hre := HRE.out w11 w11 A11 c11 hfo11.fin A2 c2 (HR2.out.below (bstepP HB0.out hb11)) (Below.refl _ _); rw [HE.out] at hre; clear hfo11 hx) | (go_at_call 39; refine hre.mono ?_; clear hre; rintro e w12 ⟨rfl, hx⟩; have hb12 := bstepP hb11 hx; clear hx))
              go_ret
              exact ⟨by first | rfl | simp, bstepP HB0.out hb12⟩
    · have hsm := HSM.out
      rw [decide_eq_false hsz] at hsm
      have HSM2 := Lib.hid hsm
      rw [hC] at htc
      clear hsm HSM HTS hd hC hsz
      go_wp2_with (first | (go_at_call 33; refine (HTD.out _ HB0.out).mono ?_; rintro e w2 ⟨v2, rfl, ⟨sv2, rfl, hfo⟩, hx⟩; have hrc := rcheck_any hfo.fin w2 tf.k tf.a n2 (Below.refl _ _); rw [tf.eta, htc] at hrc; obtain ⟨A4, c4, rfl, _, _⟩ := hfo.form; clear hfo) | (go_at_call 32; refine hrc.mono ?_; rintro e w3 ⟨rfl, hx3⟩; have hb3 := bstepP hx hx3; clear hx hx3 hrc x0 x1 x2; obtain ⟨x0, x1, x2⟩ := HCS.out w3 hb3) | (go_at_call 35; refine (HSM2.out _ (bstepP HB0.out hb3)).mono ?_; rintro e w4 ⟨rfl, hx⟩; have hb4 := bstepP hb3 hx; clear hx x0 x1 x2) | (go_at_call 34; refine (HAW.out _).mono ?_; rintro e w10 ⟨rfl, hx⟩; have hb10 := bstepP hb4 hx; clear hx))
      go_ret
      exact ⟨rfl, bstepP HB0.out hb10⟩
  · have hC' : (checkF (.mk k a fs) n2 != 0) = true := by simpa using hC
    generalize checkF (.mk k a fs) n2 = C at *
    clear hC HTS HSM
    go_wp2_with (first | (go_at_call 33; refine (HTD.out _ HB0.out).mono ?_; rintro e w2 ⟨v2, rfl, ⟨sv2, rfl, hfo⟩, hx⟩; have hrc := rcheck_any hfo.fin w2 tf.k tf.a n2 (Below.refl _ _); rw [tf.eta, htc] at hrc; obtain ⟨A4, c4, rfl, _, _⟩ := hfo.form; clear hfo htc) | (go_at_call 32; refine hrc.mono ?_; rintro e w3 ⟨rfl, hx3⟩; have hb3 := bstepP hx hx3; clear hx hx3 hrc x0 x1 x2) | (go_at_call 34; refine (HAW.out _).mono ?_; rintro e w10 ⟨rfl, hx⟩; have hb10 := bstepP hb3 hx; clear hx))
    go_ret
    exact ⟨rfl, bstepP HB0.out hb10⟩
end Go.Proofs.Ytbcabcdgblmnkaa
