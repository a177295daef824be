/- The law CnfExtends (the second form). -/
import Derived.Test.YtbcabcdgblmnkaaCnAwake
import Derived.Test.YtbcabcdgblmnkaaCnRef
import Derived.Test.YtbcabcdgblmnkaaCnSmall
import Derived.Test.YtbcabcdgblmnkaaFmREval
import Derived.Test.YtbcabcdgblmnkaaClLaw1
namespace Go.Proofs.Ytbcabcdgblmnkaa
open Go.RowKit
set_option linter.unusedVariables false
set_option linter.unusedSimpArgs false

theorem canon_anyE (xs : List Int) (t : List Bool) : (canonI xs).any (holdL t) = xs.any (holdL t) := by
  rw [Bool.eq_iff_iff, List.any_eq_true, List.any_eq_true]
  exact ⟨fun ⟨x, hx, h⟩ => ⟨x, (canonI_mem xs x).1 hx, h⟩, fun ⟨x, hx, h⟩ => ⟨x, (canonI_mem xs x).2 hx, h⟩⟩
theorem raw_lenE (ns : List Nd) (root : Nat) : (rawN ns root).length ≤ 3 * (partsN ns root).length + 1 ∧ 3 * (partsN ns root).length ≤ (rawN ns root).length := by
  rw [rawN, List.length_append, flat_len]
  have : (lastN ns (partsN ns root) root).length ≤ 1 := by
    unfold lastN
    split
    · simp
    · split
      · simp
      · simp
  omega
section
variable {ns : List Nd} {root : Nat} {vals : List Bool}
theorem flat_all (g : Good ns) (hr : root < ns.length) (ha : AtomsLt ns vals.length) : ∀ c ∈ (partsN ns root).flatMap (threeN ns (partsN ns root)), c.any (holdL (truthsN ns root vals)) = true := fun c hc => by
  obtain ⟨k, hk, hc⟩ := List.mem_flatMap.1 hc
  exact List.all_eq_true.1 (truths_three g hr ha k hk) c hc
theorem raw_all (g : Good ns) (hr : root < ns.length) (ha : AtomsLt ns vals.length) : (rawN ns root).all (fun c => c.any (holdL (truthsN ns root vals))) = ev ns vals root := by
  rw [rawN, List.all_append, last_hold (truths_ok g hr ha) (truths_right g hr ha), List.all_eq_true.2 (flat_all g hr ha), Bool.true_and]
theorem raw_first (g : Good ns) (hr : root < ns.length) (ha : AtomsLt ns vals.length) (q : Nat) (hq : q < 3 * (partsN ns root).length) : ((rawN ns root).getD q []).any (holdL (truthsN ns root vals)) = true := by
  refine flat_all g hr ha _ ?_
  have hq' : q < ((partsN ns root).flatMap (threeN ns (partsN ns root))).length := by rw [flat_len]; exact hq
  rw [rawN, List.getD_eq_getElem?_getD, List.getElem?_append_left hq', List.getElem?_eq_getElem hq']
  exact List.getElem_mem _
end
theorem all_take {XS : List (List Int)} {P : List Int → Bool} {q : Nat} (h : q < XS.length) : (XS.take (q + 1)).all P = ((XS.take q).all P && P (XS.getD q [])) := by
  rw [List.take_succ_eq_append_getElem h, List.all_append, List.getD_eq_getElem?_getD, List.getElem?_eq_getElem h]
  simp
theorem boolL_getE (vals : List Bool) (k : Nat) (hk : k < vals.length) : (boolL vals)[k]? = some (.bool (vals.getD k false)) := by
  rw [List.getD_eq_getElem?_getD, List.getElem?_eq_getElem hk]
  simp [boolL, hk]
theorem small_fitE (f : Fm) (vals : List Bool) (hs : shapeF f vals.length = true) (hsz : sizeF f ≤ 60) : (partsN (placeF f ns0).1 (placeF f ns0).2).length ≤ 200 := by
  have h := (place_ok f vals ns0 good0 hs (by simp [ns0]; omega)).len
  have := partsN_length (placeF f ns0).1 (placeF f ns0).2
  simp [ns0] at h this ⊢
  omega
set_option maxRecDepth 100000 in
set_option maxHeartbeats 16000000 in
theorem cextends_law {w : World} (k a : Int) (fs : List Fm) (sv : Value) (h : FIn w fs sv) (A2 : Option Addr) (n2 c2 : Nat) (vals : List Bool) (hl2 : vals.length = n2) (hnc2 : n2 ≤ c2) (hc2 : c2 ≤ 1048576) (hr2 : Rd w 1 A2 n2 (boolL vals)) :
    Calls Try.prog 11 #[.agg #[.int .i64 k, .int .i64 a, sv], .slice A2 n2 c2] w fun e w' => e = .returned (.bool true) ∧ Below w.heap.size w w' := by
  obtain ⟨i0, hinf, hz0, hz1, hz2⟩ := info_parts info_bool
  have hb0 : Below w.heap.size w (w.alloc (.cells #[.int .i64 k, .int .i64 a, sv] 58)) := (Below.refl _ _).alloc (Nat.le_refl _) _
  have hbox := heap_alloc_new w (.cells #[.int .i64 k, .int .i64 a, sv] 58)
  have htd := fun W hW => told_top h W k a hW
  have hsm := fun W hW => small18_any h W k a hW
  have htc := told_check (.mk k a fs) n2
  have haw := awake18_any
  have hh := h
  obtain ⟨A, c, rfl, _, _⟩ := h.form
  have HH := Lib.hid hh
  have hts : sizeF (.mk k a fs) ≤ 60 → toldT (.mk k a fs) = .mk k a fs := fun h1 => toldT_same _ (by omega)
  have hpl0 := partsN_length (placeF (.mk k a fs) ns0).1 (placeF (.mk k a fs) ns0).2
  have hmo0 := (place_good (.mk k a fs) ns0 good0).most
  have hex := fun W A' c' (hW : Below w.heap.size w W) hc' hr' => extend_any HH.out vals A' n2 c' hl2 hc' (by omega) W k a (by omega) hW hr'
  obtain ⟨V, hV⟩ : ∃ V, V = if checkF (.mk k a fs) n2 = 0 then truthsN (placeF (.mk k a fs) ns0).1 (placeF (.mk k a fs) ns0).2 vals else [] := ⟨_, rfl⟩
  rw [← hV] at hex
  generalize hgT : toldT (.mk k a fs) = tf at *
  have HTD := Lib.hid htd
  have HSM := Lib.hid hsm
  have HAW := Lib.hid haw
  have HTS := Lib.hid hts
  have HEX := Lib.hid hex
  have HV := Lib.hid hV
  obtain ⟨C, hgC⟩ : ∃ C, C = checkF (.mk k a fs) n2 := ⟨_, rfl⟩
  rw [← hgC] at htc HEX HV
  have HGC := Lib.hid hgC
  clear htd hsm haw h hh hts hgT hex hV hpl0 hmo0 hgC
  go_enter Try.func11, Try.ntmps11
  go_upto_region 1 with fail
  obtain ⟨W0, hW0⟩ : ∃ W, W = w.alloc (.cells #[.int .i64 k, .int .i64 a, .slice A fs.length c] 58) := ⟨_, rfl⟩
  rw [← hW0] at hb0 hbox ⊢
  clear hW0
  have hcs : ∀ W', Below W0.heap.size W0 W' → W'.cell? ⟨w.heap.size, 0, none⟩ = some (.int .i64 k) ∧ W'.cell? ⟨w.heap.size, 1, none⟩ = some (.int .i64 a) ∧ W'.cell? ⟨w.heap.size, 2, none⟩ = some (.slice A fs.length c) := fun W' hW' => by
    have h1 := (hW'.block _ (lt_of_blk hbox)).trans hbox
    exact ⟨cell_of_blk h1 0, cell_of_blk h1 1, cell_of_blk h1 2⟩
  obtain ⟨x0, x1, x2⟩ := hcs W0 (Below.refl _ _)
  have HR2 := Lib.hid hr2
  have HR20 := Lib.hid (hr2.below hb0)
  have HB0 := Lib.hid hb0
  have HCS := Lib.hid hcs
  have hlt0 : w.heap.size < W0.heap.size := lt_of_blk hbox
  clear hcs hbox hb0 hr2
  go_cut [5, 6] (fun x y wx => ∃ A7 c7, x = .slice A7 V.length c7 ∧ y = .int .i64 C ∧ wx.ownsRow W0.heap.size 4 1 (.slice A7 V.length c7) V.length (boolL V) ∧ Below W0.heap.size W0 wx)
  case first =>
    go_region_law (first | (refine stepRS W0.heap.size (W0.drew.alloc (.cells #[] 4)) 1 4 rfl _ _ 23 rfl i0 _ 1 Try.underlying23 hinf hz0 hz1 hz2 rfl (by decide) (by decide) (.slice (some ⟨W0.heap.size, 0, none⟩) 0 0) 0 [] (by simp [Act.eval, Act.put]) (by simp) (own_emptyS _ _ _ _ (Nat.le_refl _)) A2 n2 c2 _ (by simp [Act.eval, Act.put]) ((HR20.out.drew).alloc _) (boolL_one vals) (by omega) ?_; intro v8 w8 hown8 hg8; have hb8 := app_below (Nat.le_refl _) hg8; obtain ⟨A8, c8, rfl, hnc8, hr8⟩ := ownsRow_form hown8; simp only [List.nil_append, Nat.zero_add] at hr8 hnc8; obtain ⟨o0, o1, o2⟩ := HCS.out w8 hb8) | (go_simp; go_at_call 37; refine (HEX.out w8 A8 c8 (bstepP HB0.out hb8) hnc8 hr8).mono ?_; rintro e w9 ⟨v9, rfl, ho9, hx⟩; obtain ⟨A9, c9, rfl, _, _⟩ := ownsRow_form ho9; have ho9' := own_more ho9 hb8.size; have hb9 := bstepP hb8 hx))
    all_goals (go_wp2_with fail; go_meet; exact ⟨_, _, rfl, rfl, ho9', hb9⟩)
  case rest =>
  obtain ⟨A7, c7, rfl, rfl, ho7, hb7⟩ := hcut
  obtain ⟨w7, rfl⟩ : ∃ x, x = wc := ⟨_, rfl⟩
  have HO7 := Lib.hid ho7
  clear ho7 x0 x1 x2
  obtain ⟨x0, x1, x2⟩ := HCS.out w7 hb7
  go_upto_region 3 with (first | (go_at_call 33; refine (HTD.out _ (bstepP HB0.out hb7)).mono ?_; rintro e w2 ⟨v2, rfl, ⟨sv2, rfl, hfo⟩, hx⟩; have hrc := rcheck_any hfo.fin w2 tf.k tf.a n2 (Below.refl _ _); rw [tf.eta, htc] at hrc; obtain ⟨A4, c4, rfl, _, _⟩ := hfo.form; clear hfo) | (go_at_call 32; refine hrc.mono ?_; rintro e w3 ⟨rfl, hx3⟩; have hb73 := bstepP hx hx3; clear hx hx3 hrc x0 x1 x2))
  have hb3 := bstepP hb7 hb73
  have HO3 := Lib.hid (own_below HO7.out hb73)
  obtain ⟨x0, x1, x2⟩ := HCS.out w3 hb3
  clear hb7 hb73 HO7 htc
  have tok0 : True := trivial
  by_cases hC : C = 0
  · have hC0 : checkF (.mk k a fs) n2 = 0 := by rw [← HGC.out]; exact hC
    have hv := HV.out
    rw [if_pos hC] at hv
    subst hC
    clear HV HGC HEX
    by_cases hsz : sizeF (.mk k a fs) ≤ 60
    · have hsm := HSM.out
      rw [decide_eq_true hsz] at hsm
      have HSM2 := Lib.hid hsm
      have p1 := HTS.out hsz
      subst p1
      have htf : ∀ W', Below w.heap.size w W' → Calls Try.prog 33 #[.agg #[.int .i64 k, .int .i64 a, .slice A fs.length c]] W' fun e w' => ∃ sv, e = .returned (.agg #[.int .i64 k, .int .i64 a, sv]) ∧ FOn (fun b => W'.heap.size ≤ b) w' fs sv ∧ Below W'.heap.size W' w' := fun W' hW' =>
        (HTD.out W' hW').mono (fun e w' ⟨v, e1, ⟨sv, e2, hfo⟩, hb⟩ => ⟨sv, by subst e1; subst e2; rfl, hfo, hb⟩)
      have HTF := Lib.hid htf
      have hat := place_atoms (.mk k a fs) ns0 n2 (checkF_great hC0).2 (atoms0 n2)
      have hok := place_ok (.mk k a fs) vals ns0 good0 (by rw [hl2]; exact (checkF_great hC0).2) (by simp [ns0]; omega)
      have hfit := small_fitE (.mk k a fs) vals (by rw [hl2]; exact (checkF_great hC0).2) hsz
      have hcl := fun W hW => clausify_any HH.out W k a n2 (by omega) hW hC0
      have hrt := fun S W sv' (hf : FOn S W fs sv') hr' => rtruths_any hf vals A2 n2 c2 hl2 (by omega) k a (by omega) hr' (checkF_great hC0).2 (by omega)
      have hre := fun W w0 A' c' (hfi : FIn w0 fs (.slice A' fs.length c')) A4 c4 hr' (hW : Below w0.heap.size w0 W) => reval_any hfi vals A4 n2 c4 hl2 hr' W k a hW (checkF_great hC0).2
      have hok2 : Good (placeF (.mk k a fs) ns0).1 ∧ (placeF (.mk k a fs) ns0).2 < (placeF (.mk k a fs) ns0).1.length ∧ ev (placeF (.mk k a fs) ns0).1 vals (placeF (.mk k a fs) ns0).2 = evalF (.mk k a fs) vals := ⟨hok.good, hok.lt, hok.val⟩
      clear hok hsm HSM HTS hC0 hsz HTD htf
      generalize placeF (.mk k a fs) ns0 = P at *
      obtain ⟨ns, root⟩ := P
      simp only at hat hok2 hfit hcl hrt hv
      obtain ⟨hG, hroot, hval⟩ := hok2
      have hat' : AtomsLt ns vals.length := by rw [hl2]; exact hat
      have htr := truths_ok (vals := vals) hG hroot hat'
      have hraw := raw_all (vals := vals) hG hroot hat'
      rw [hval] at hraw
      have hfst := fun q hq => raw_first (vals := vals) hG hroot hat' q hq
      have hxl := raw_lenE ns root
      have hrl := raw_lits htr
      rw [hl2] at hrl
      have htl : (truthsN ns root vals).length = (partsN ns root).length + n2 := by rw [htr.len, hl2]
      generalize hgE : evalF (.mk k a fs) vals = E at *
      generalize truthsN ns root vals = T at *
      subst hv
      generalize (partsN ns root).length = m at *
      generalize rawN ns root = XS at *
      have hTb : V.length ≤ 1048976 := by omega
      have hm200 : m ≤ 200 := hfit
      have HTL := Lib.hid htl
      have HCL := Lib.hid hcl
      have HRT := Lib.hid hrt
      have HRE := Lib.hid hre
      have HRAW := Lib.hid hraw
      have HFST := Lib.hid hfst
      have HXL := Lib.hid hxl
      have HRL := Lib.hid hrl
      clear hgE hcl hrt hre hraw hfst hxl hrl htl htr hat hat' hG hroot hval hfit
      go_upto_region 7 with (first | (go_at_call 34; refine (HAW.out _).mono ?_; rintro e w4 ⟨rfl, hx⟩; have hb4 := bstepP hb3 hx; have HO4 := Lib.hid (own_below HO3.out hx); clear hx x0 x1 x2; obtain ⟨x0, x1, x2⟩ := HCS.out w4 hb4) | (go_at_call 35; refine (HSM2.out _ (bstepP HB0.out hb4)).mono ?_; rintro e w5 ⟨rfl, hx⟩; have hb5 := bstepP hb4 hx; have HO5 := Lib.hid (own_below HO4.out hx); clear hx x0 x1 x2; obtain ⟨x0, x1, x2⟩ := HCS.out w5 hb5))
      go_upto_region 8 with (first | (go_at_call 33; refine (HTF.out _ (bstepP HB0.out hb5)).mono ?_; rintro e w6 ⟨sv6, rfl, hfo6, hx⟩; have hb6 := bstepP hb5 hx; have HO6 := Lib.hid (own_below HO5.out hx); have hcall := HRT.out _ w6 sv6 hfo6 (HR2.out.below (bstepP HB0.out hb6)); obtain ⟨A6, c6, rfl, _, _⟩ := hfo6.form; clear hfo6 hx x0 x1 x2) | (go_at_call 38; refine hcall.mono ?_; clear hcall; rintro e w8 ⟨v8, rfl, ho8, hx⟩; obtain ⟨A8, c8, rfl, _, _⟩ := ownsRow_form ho8; have hb8 := bstepP hb6 hx; have HO8 := Lib.hid (own_below HO6.out hx); have HT8 := Lib.hid (cown_rd ho8); clear ho8 hx))
      go_wp2_with fail
      go_loopw [69] (fun x wr => ∃ (q t' : Nat), q ≤ V.length ∧ x = .int .i64 (q : Int) ∧ wr = w8.drewN t') (fun x _ => V.length - (intOf x).toNat)
      case atStart => exact ⟨0, 0, Nat.zero_le _, rfl, rfl⟩
      case round =>
        obtain ⟨q, t', hq, rfl, rfl⟩ := hrel
        by_cases hlt : q < V.length
        · obtain ⟨b6, o6, u6, rfl, hu6, hc6⟩ := (cown_rd HO8.out).at_ hlt
          obtain ⟨b7, o7, u7, rfl, hu7, hc7⟩ := HT8.out.at_ hlt
          rw [boolL_getE V q hlt] at hu6 hu7
          obtain rfl := Option.some.inj hu6
          obtain rfl := Option.some.inj hu7
          clear hu6 hu7
          generalize V.getD q false = y at *
          go_wp2_with fail
          go_quiet (fail)
          go_wp2_with fail
          go_roundw
          case rel => exact ⟨q + 1, t' + nq, by omega, by go_num, by first | rfl | rw [World.drewN_drewN]⟩
          case measure => simp [intOf]; omega
        · obtain rfl : q = V.length := by omega
          clear hq hlt
          obtain ⟨wz, hwz⟩ : ∃ x, x = w8.drewN t' := ⟨_, rfl⟩
          rw [← hwz]
          have hbz8 : Below w8.heap.size w8 wz := by rw [hwz]; exact below_drewN (Below.refl _ _) _
          have hbz := bstepP hb8 hbz8
          have HOZ := Lib.hid (own_below HO8.out hbz8)
          obtain ⟨x0, x1, x2⟩ := HCS.out wz hbz
          clear hwz hbz8 HO8 HT8
          have hcall := HCL.out wz (bstepP HB0.out hbz)
          go_upto_region 17 with (go_at_call 31; refine hcall.mono ?_; clear hcall x0 x1 x2; rintro e w9 ⟨v9, vs, rfl, hr9, hx⟩; have hb9 := bstepP hbz hx; have HO9 := Lib.hid (own_below HOZ.out hx); obtain ⟨A9, c9, rfl, _, _⟩ := ownsRow_form hr9.own; clear hx)
          have hx10 := (Below.refl w9.heap.size w9).alloc (Nat.le_refl _) (.cells #[.int .i64 (m : Int), .slice A9 vs.length c9] 60)
          have hrb := hr9.below hx10
          have hb10 := bstepP hb9 hx10
          have HO10 := Lib.hid (own_below HO9.out hx10)
          have hcb := heap_alloc_new w9 (.cells #[.int .i64 (m : Int), .slice A9 vs.length c9] 60)
          obtain ⟨W6, hW6⟩ : ∃ W, W = w9.alloc (.cells #[.int .i64 (m : Int), .slice A9 vs.length c9] 60) := ⟨_, rfl⟩
          rw [← hW6] at hrb hb10 hcb HO10 ⊢
          have hcn : ∀ W', Below W6.heap.size W6 W' → W'.cell? ⟨w9.heap.size, 0, none⟩ = some (.int .i64 (m : Int)) ∧ W'.cell? ⟨w9.heap.size, 1, none⟩ = some (.slice A9 vs.length c9) := fun W' hW' => by
            have h1 := (hW'.block _ (lt_of_blk hcb)).trans hcb
            exact ⟨(cell_of_blk h1 0).trans rfl, (cell_of_blk h1 1).trans rfl⟩
          obtain ⟨z0, z1⟩ := hcn W6 (Below.refl _ _)
          have HRW := Lib.hid hrb
          have HB6 := Lib.hid hb10
          have HCN := Lib.hid hcn
          have hvx : vs.length = XS.length := by rw [hrb.len, List.length_map]
          have HVX := Lib.hid hvx
          have hvl6 : vs.length ≤ 601 := by have := HXL.out; omega
          have hvl7 : ¬ (vs.length : Int) < 3 * (m : Int) := by have := HXL.out; omega
          clear hrb hcb hcn hW6 hr9 hx10 hb10 hvx HO9 HOZ
          go_wp2_with fail
          go_loopw [12, 103] (fun y x wr => ∃ q : Nat, q ≤ vs.length ∧ x = .int .i64 (q : Int) ∧ y = .bool ((XS.take q).all fun c => c.any (holdL V)) ∧ Below W6.heap.size W6 wr) (fun _ x _ => vs.length - (intOf x).toNat)
          case atStart => exact ⟨0, Nat.zero_le _, rfl, rfl, Below.refl _ _⟩
          case round =>
            obtain ⟨q, hq, rfl, rfl, hbk⟩ := hrel
            clear z0 z1
            obtain ⟨z0, z1⟩ := HCN.out wr hbk
            by_cases hlt : q < vs.length
            · have hltx : q < XS.length := by rw [← HVX.out]; exact hlt
              obtain ⟨u, hu⟩ : ∃ u, vs[q]? = some u := ⟨_, List.getElem?_eq_getElem hlt⟩
              have hys : (XS.map canonI)[q]? = some (canonI (XS.getD q [])) := by
                rw [List.getElem?_map, List.getD_eq_getElem?_getD, List.getElem?_eq_getElem hltx]
                rfl
              have hrs := HRW.out.below hbk
              obtain ⟨Au, cu, rfl, hcu1, hcu2, hru⟩ := (hrs.rows q u _ hu hys).rd
              obtain ⟨b5, o5, u', rfl, hu', y0⟩ := (cown_rd hrs.own).at_ hlt
              rw [hu] at hu'
              obtain rfl := Option.some.inj hu'
              have hmem : XS.getD q [] ∈ XS := by
                rw [List.getD_eq_getElem?_getD, List.getElem?_eq_getElem hltx]
                simp
              have hlit := HRL.out _ hmem
              have hcl3 := canonI_len (XS.getD q [])
              have hhd := holdsR_any (canonI (XS.getD q [])) Au _ cu V A7 V.length c7 wr rfl (by have := hlit.1; unfold maxLen; omega) hru (fun l hl => by have := hlit.2 l ((canonI_mem _ l).1 hl); unfold IsLit; omega) rfl (by unfold maxLen; omega) (own_below HO10.out hbk |> cown_rd)
              rw [canon_anyE] at hhd
              have hat := all_take (P := fun c => c.any (holdL V)) hltx
              have hfst := HFST.out q
              have HBK := Lib.hid hbk
              clear hrs hu hys hmem hlit hcl3 hltx hru hcu1 hcu2 hbk
              generalize (XS.getD q []).any (holdL V) = b at *
              generalize hal : ((XS.take q).all fun c => c.any (holdL V)) = al at *
              have HAT := Lib.hid hat
              clear hal hat
              generalize (canonI (XS.getD q [])).length = ln at *
              by_cases h3 : q < 3 * m
              · have hb1 := hfst h3
                subst hb1
                have h3' : (q : Int) < 3 * (m : Int) := by omega
                clear hfst h3
                cases al
                all_goals
                  go_wp2_with (go_at_call 20; refine hhd.mono ?_; clear hhd; rintro e w11 ⟨rfl, hw⟩; obtain rfl := hw.symm; clear hw)
                  go_roundw
                  case rel => exact ⟨q + 1, by omega, by go_num, by rw [HAT.out]; rfl, HBK.out⟩
                  case measure => simp [intOf]; omega
              · have h3' : ¬ (q : Int) < 3 * (m : Int) := by omega
                clear hfst h3
                cases al <;> cases b
                all_goals
                  go_wp2_with (go_at_call 20; refine hhd.mono ?_; clear hhd; rintro e w11 ⟨rfl, hw⟩; obtain rfl := hw.symm; clear hw)
                  go_roundw
                  case rel => exact ⟨q + 1, by omega, by go_num, by rw [HAT.out]; rfl, HBK.out⟩
                  case measure => simp [intOf]; omega
            · obtain rfl : q = vs.length := by omega
              have htk : (XS.take vs.length).all (fun c => c.any (holdL V)) = E := by rw [HVX.out, List.take_length]; exact HRAW.out
              rw [htk]
              have hbr := bstepP HB6.out hbk
              obtain ⟨x0, x1, x2⟩ := HCS.out wr hbr
              clear htk hlt hq hbk z0 z1 HRAW HFST HRL
              go_wp2_with (first | (go_at_call 33; refine (HTF.out _ (bstepP HB0.out hbr)).mono ?_; rintro e w11 ⟨sv11, rfl, hfo11, hx⟩; have hb11 := bstepP hbr hx; obtain ⟨A11, c11, rfl, _, _⟩ := hfo11.form; have hre := HRE.out w11 w11 A11 c11 hfo11.fin A2 c2 (HR2.out.below (bstepP HB0.out hb11)) (Below.refl _ _); clear hfo11 hx) | (go_at_call 39; refine hre.mono ?_; clear hre; rintro e w12 ⟨rfl, hx⟩; have hb12 := bstepP hb11 hx; clear hx))
              go_ret
              exact ⟨ret_bool (by simp), bstepP HB0.out hb12⟩
    · have hsm := HSM.out
      rw [decide_eq_false hsz] at hsm
      have HSM2 := Lib.hid hsm
      clear hsm HSM HTS hsz hC0 hv
      go_wp2_with (first | (go_at_call 35; refine (HSM2.out _ (bstepP HB0.out hb4)).mono ?_; rintro e w5 ⟨rfl, hx⟩; have hb5 := bstepP hb4 hx; clear hx x0 x1 x2 HSM2) | (go_at_call 34; have _t := tok0; refine (HAW.out _).mono ?_; clear tok0; rintro e w4 ⟨rfl, hx⟩; have hb4 := bstepP hb3 hx; clear hx x0 x1 x2; obtain ⟨x0, x1, x2⟩ := HCS.out w4 hb4) | (go_at_call 34; refine (HAW.out _).mono ?_; rintro e w6 ⟨rfl, hx⟩; have hb6 := bstepP hb5 hx; clear hx))
      go_ret
      exact ⟨rfl, bstepP HB0.out hb6⟩
  · have hv := HV.out
    rw [if_neg hC] at hv
    subst hv
    have hC' : (C != 0) = true := by simpa using hC
    clear hC
    go_wp2_with (go_at_call 34; refine (HAW.out _).mono ?_; rintro e w10 ⟨rfl, hx⟩; have hb10 := bstepP hb3 hx; clear hx)
    go_ret
    exact ⟨by first | rfl | simp, bstepP HB0.out hb10⟩
end Go.Proofs.Ytbcabcdgblmnkaa
