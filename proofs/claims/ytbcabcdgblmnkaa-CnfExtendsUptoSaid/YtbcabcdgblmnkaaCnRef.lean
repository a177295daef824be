/- Contracts of the reference of clauses of formulas: stands, Parts, Truths. -/
import Derived.Test.YtbcabcdgblmnkaaCnExt
import Derived.Test.YtbcabcdgblmnkaaPlRef
import Derived.Test.YtbcabcdgblmnkaaRefEval
namespace Go.Proofs.Ytbcabcdgblmnkaa
open Go.RowKit
set_option linter.unusedVariables false
set_option linter.unusedSimpArgs false

theorem ks_of {S : Nat → Prop} {w0 w : World} (h : Below w0.heap.size w0 w) : KS S w0 w := ⟨h.size, fun p hp _ => h.cell hp⟩
set_option maxRecDepth 100000 in
set_option maxHeartbeats 8000000 in
theorem stands_any (ns : List Nd) (g : Good ns) (A : Option Addr) (c k : Nat) : ∀ (r : Nat), r < ns.length → ∀ (w : World), Rd w 3 A ns.length (ndCells ns) →
    Calls Try.prog 74 #[.slice A ns.length c, .int .i64 (r : Int), .int .i64 (k : Int)] w fun e w' => e = .returned (.bool (stD ns r k)) ∧ Below w.heap.size w w' := by
  intro r
  induction r using Nat.strongRecOn with
  | ind r ih =>
    intro hr w hrd
    rw [stD_eq g hr]
    by_cases hrk : r = k
    · have e1 : ((r : Int) == (k : Int)) = true := by simp [hrk]
      rw [decide_eq_true hrk, Bool.true_or]
      clear hrk ih
      go_enter Try.func74, Try.ntmps74
      go_wp2_with fail
      go_ret
      exact ⟨rfl, Below.refl _ _⟩
    · have e1 : ((r : Int) == (k : Int)) = false := by rw [beq_eq_false_iff_ne]; omega
      rw [decide_eq_false hrk, Bool.false_or]
      obtain ⟨gb, off, rfl, x0, x1, x2, hgb⟩ := hrd.nd3 r hr rfl
      have hkid := good_kids g (i := r) hr
      have hrl : (r : Int) < (ns.length : Int) := by omega
      have hml := g.most
      have hih := fun j (hj : j < r) W hW => ih j hj (by omega) W hW
      have hbA := heap_alloc_new w (.cells #[.int .i64 (nd ns r).k, .int .i64 (nd ns r).a, .int .i64 (nd ns r).b] 108)
      have hx := (Below.refl w.heap.size w).alloc (Nat.le_refl _) (.cells #[.int .i64 (nd ns r).k, .int .i64 (nd ns r).a, .int .i64 (nd ns r).b] 108)
      have hrd1 := hrd.below hx
      clear ih hrk g hrd
      generalize nd ns r = X at *
      obtain ⟨xk, xa, xb⟩ := X
      simp only at x0 x1 x2 hkid hbA hx hrd1 ⊢
      have HX := Lib.hid hx
      have HBA := Lib.hid hbA
      have HRD := Lib.hid hrd1
      clear hx hbA hrd1
      by_cases h4 : 4 ≤ xk
      · obtain ⟨p1, p2, p3, p4, _⟩ := hkid h4
        obtain ⟨a, rfl⟩ : ∃ a : Nat, xa = a := ⟨xa.toNat, by omega⟩
        rw [Int.toNat_natCast] at p2 p3 ⊢
        rw [decide_eq_true h4, Bool.true_and]
        by_cases hkr : k < r
        · have hkr' : (k : Int) < (r : Int) := by omega
          rw [decide_eq_true hkr, Bool.true_and, Bool.true_and]
          have hc1 := hih a p3 _ HRD.out
          generalize stD ns a k = y at *
          cases y with
          | true =>
            rw [Bool.true_or]
            clear hih hkid p4 hkr
            go_enter Try.func74, Try.ntmps74
            go_wp2_with (go_at_call 74; refine hc1.mono ?_; clear hc1; rintro e w1 ⟨rfl, hb1⟩)
            go_ret
            exact ⟨by first | rfl | simp, HX.out.trans (hb1.mono HX.out.size)⟩
          | false =>
            rw [Bool.false_or]
            by_cases h5 : 5 ≤ xk
            · obtain ⟨_, q2, q3⟩ := p4 (by omega)
              obtain ⟨b, rfl⟩ : ∃ b : Nat, xb = b := ⟨xb.toNat, by omega⟩
              rw [Int.toNat_natCast] at q2 q3 ⊢
              rw [decide_eq_true h5, Bool.true_and]
              have hc2 := fun W hW => hih b q3 W (HRD.out.below hW)
              generalize stD ns b k = z at *
              have HC2 := Lib.hid hc2
              clear hih hkid p4 hkr hc2
              go_enter Try.func74, Try.ntmps74
              go_wp2_with (first | (go_at_call 74; refine hc1.mono ?_; clear hc1; rintro e w1 ⟨rfl, hb1⟩; have hbx1 := (hb1.block _ (lt_of_blk HBA.out)).trans HBA.out; have y0 := cell_of_blk hbx1 0; have y2 := cell_of_blk hbx1 2; simp at y0 y2; have hcall := HC2.out _ hb1; clear HC2 hbx1) | (go_at_call 74; refine hcall.mono ?_; clear hcall; rintro e w2 ⟨rfl, hb2⟩))
              go_ret
              exact ⟨by first | rfl | simp, (HX.out.trans (hb1.mono HX.out.size)).trans (hb2.mono (Nat.le_trans HX.out.size hb1.size))⟩
            · rw [decide_eq_false h5, Bool.false_and]
              clear hih hkid p4 hkr
              go_enter Try.func74, Try.ntmps74
              go_wp2_with (go_at_call 74; refine hc1.mono ?_; clear hc1; rintro e w1 ⟨rfl, hb1⟩; have hbx1 := (hb1.block _ (lt_of_blk HBA.out)).trans HBA.out; have y0 := cell_of_blk hbx1 0; have y2 := cell_of_blk hbx1 2; simp at y0 y2; clear hbx1)
              go_ret
              exact ⟨by first | rfl | simp, HX.out.trans (hb1.mono HX.out.size)⟩
        · have hkr' : ¬ (k : Int) < (r : Int) := by omega
          rw [decide_eq_false hkr, Bool.false_and, Bool.false_or, Bool.false_and, Bool.and_false]
          clear hih hkid p4 hkr
          by_cases h5 : 5 ≤ xk
          · go_enter Try.func74, Try.ntmps74
            go_wp2_with fail
            go_ret
            exact ⟨by first | rfl | simp, HX.out⟩
          · go_enter Try.func74, Try.ntmps74
            go_wp2_with fail
            go_ret
            exact ⟨by first | rfl | simp, HX.out⟩
      · have h5 : ¬ 5 ≤ xk := by omega
        rw [decide_eq_false h4, decide_eq_false h5, Bool.false_and, Bool.false_and, Bool.false_or]
        clear hih hkid
        go_enter Try.func74, Try.ntmps74
        go_wp2_with fail
        go_ret
        exact ⟨by first | rfl | simp, HX.out⟩

set_option maxRecDepth 100000 in
set_option maxHeartbeats 8000000 in
theorem rparts_any (ns : List Nd) (root : Nat) (A : Option Addr) (c : Nat) (w : World) (hG : Good ns) (hr : root < ns.length) (hrd : Rd w 3 A ns.length (ndCells ns)) :
    Calls Try.prog 61 #[.slice A ns.length c, .int .i64 (root : Int)] w fun e w' => ∃ v, e = .returned v ∧ OwnI w' w.heap.size v (natI (partsN ns root)) ∧ Below w.heap.size w w' := by
  obtain ⟨j0, hjnf, hy0, hy1, hy2⟩ := info_parts info_int
  have h2 := hG.most
  have hpn : partsN ns root = upN ns (needAll ns root) ns.length := rfl
  rw [hpn]
  have hst := fun W k hW => stands_any ns hG A c k root hr W hW
  have hsd := fun k => stD_need hG hr k
  generalize needAll ns root = fin at *
  have HST := Lib.hid hst
  have HSD := Lib.hid hsd
  have HRD := Lib.hid hrd
  clear hG hrd hpn hst hsd
  go_enter Try.func61, Try.ntmps61
  go_wp2_with fail
  have hb0 := (Below.refl w.heap.size w).alloc (Nat.le_refl _) (.cells #[] 3)
  have ho0 : OwnI (w.alloc (.cells #[] 3)) w.heap.size (.slice (some ⟨w.heap.size, 0, none⟩) 0 0) (natI (upN ns fin 0)) := own_empty _ _ _ (Nat.le_refl _)
  go_loopw [5, 11] (fun o x wr => ∃ (k : Nat) (v : Value), k ≤ ns.length ∧ x = .int .i64 (k : Int) ∧ v = o ∧ OwnI wr w.heap.size v (natI (upN ns fin k)) ∧ Below w.heap.size w wr) (fun _ x _ => ns.length - (intOf x).toNat)
  case atStart => exact ⟨0, _, Nat.zero_le _, rfl, rfl, ho0, hb0⟩
  case round =>
    clear ho0 hb0
    obtain ⟨k, v, hk, rfl, rfl, hown, hbk⟩ := hrel
    by_cases hlt : k < ns.length
    · obtain ⟨g, off, rfl, x0, x1, x2, hg⟩ := (HRD.out.below hbk).nd3 k hlt rfl
      have hrl := upN_length ns fin k
      have hy1 := fun h h5 => upN_yes (ns := ns) (r := fin) (m := k) h h5
      have hy0' := fun h => upN_no (ns := ns) (r := fin) (m := k) h
      rw [← HSD.out k] at hy1 hy0'
      have hx := (Below.refl wr.heap.size wr).alloc (Nat.le_refl _) (.cells #[.int .i64 (nd ns k).k, .int .i64 (nd ns k).a, .int .i64 (nd ns k).b] 108)
      have hcall := HST.out _ k (HRD.out.below (hbk.trans (hx.mono hbk.size)))
      generalize nd ns k = X at *
      obtain ⟨xk, xa, xb⟩ := X
      simp only at x0 x1 x2 hy1 hy0' hx hcall
      have hown1 := hown.below hx
      have hbk1 := hbk.trans (hx.mono hbk.size)
      have HO := Lib.hid hown1
      have HBK := Lib.hid hbk1
      have HY1 := Lib.hid hy1
      have HY0 := Lib.hid hy0'
      clear hown hbk hown1 hbk1 hy1 hy0' hx
      by_cases h5 : 5 ≤ xk
      · generalize stD ns root k = y at *
        cases y with
        | true =>
          have HQ := Lib.hid (HY1.out rfl h5)
          go_upto_region 6 with (go_at_call 74; refine hcall.mono ?_; clear hcall; rintro e w3 ⟨rfl, hb3⟩)
          have ho3 := HO.out.below hb3
          have hb3' := HBK.out.trans (hb3.mono HBK.out.size)
          have hlen8 : ((natI (upN ns fin k)).length + 1) * 8 ≤ 140737488355328 := by rw [natI_length]; omega
          go_wp2_with (at_builtin; refine app1 w.heap.size w w3 (.int .i64 (k : Int)) 3 rfl _ _ 22 rfl j0 (.int .i64 0) 8 Try.underlying22 hjnf hy0 hy1 hy2 rfl (by decide) _ (natI (upN ns fin k)).length (ints (natI (upN ns fin k))) rfl (Nat.le_refl _) ho3 hb3' rfl rfl hlen8 ?_)
          intro v4 w4 hown4 hb4 _
          have how4 : OwnI w4 w.heap.size v4 (natI (upN ns fin k) ++ [(k : Int)]) := OwnI.snoc hown4
          go_wp2_with fail
          go_roundw
          case rel => exact ⟨k + 1, _, by omega, by go_num, rfl, by rw [HQ.out]; simpa [natI] using how4, hb4⟩
          case measure => simp [intOf]; omega
        | false =>
          have HQ := Lib.hid (HY0.out (by rw [Bool.false_and]))
          go_wp2_with (go_at_call 74; refine hcall.mono ?_; clear hcall; rintro e w3 ⟨rfl, hb3⟩)
          go_roundw
          case rel => exact ⟨k + 1, _, by omega, by go_num, rfl, by rw [HQ.out]; exact HO.out.below hb3, HBK.out.trans (hb3.mono HBK.out.size)⟩
          case measure => simp [intOf]; omega
      · have HQ := Lib.hid (HY0.out (by rw [decide_eq_false h5, Bool.and_false]))
        clear hcall
        go_wp2_with fail
        go_roundw
        case rel => exact ⟨k + 1, _, by omega, by go_num, rfl, by rw [HQ.out]; exact HO.out, HBK.out⟩
        case measure => simp [intOf]; omega
    · obtain rfl : k = ns.length := by omega
      go_wp2_with fail
      go_ret
      exact ⟨_, rfl, hown, hbk⟩

set_option maxRecDepth 100000 in
set_option maxHeartbeats 8000000 in
theorem rtruths_any {S : Nat → Prop} {w : World} {fs : List Fm} {sv : Value} (h : FOn S w fs sv) (vals : List Bool) (A2 : Option Addr) (n c2 : Nat) (hl : vals.length = n) (hn2 : n ≤ 140737488355328) (k a : Int) (hfit : (partsN (placeF (.mk k a fs) ns0).1 (placeF (.mk k a fs) ns0).2).length + n ≤ 140737488355328) (hr2 : Rd w 1 A2 n (boolL vals)) (hsh : shapeF (.mk k a fs) n = true) (hsz : 2 * sizeF (.mk k a fs) ≤ 10000) :
    Calls Try.prog 38 #[.agg #[.int .i64 k, .int .i64 a, sv], .slice A2 n c2] w fun e w' => ∃ v, e = .returned v ∧
      w'.ownsRow w.heap.size 4 1 v (truthsN (placeF (.mk k a fs) ns0).1 (placeF (.mk k a fs) ns0).2 vals).length (boolL (truthsN (placeF (.mk k a fs) ns0).1 (placeF (.mk k a fs) ns0).2 vals)) ∧ Below w.heap.size w w' := by
  obtain ⟨i0, hinf, hz0, hz1, hz2⟩ := info_parts info_bool
  have hpk : Good (placeF (.mk k a fs) ns0).1 ∧ (placeF (.mk k a fs) ns0).2 < (placeF (.mk k a fs) ns0).1.length := ⟨place_good _ _ good0, place_lt _ _ good0⟩
  have hpc : ∀ (W : World) (v : Value) (B : Nat), w.heap.size ≤ B → Below w.heap.size w W → B ≤ W.heap.size → W.ownsRow B 108 3 v 2 (ndCells ns0) →
      Calls Try.prog 59 #[v, .agg #[.int .i64 k, .int .i64 a, sv]] W fun e w' => ∃ v', e = .returned (.tuple #[v', .int .i64 ((placeF (.mk k a fs) ns0).2 : Nat)]) ∧ w'.ownsRow B 108 3 v' (placeF (.mk k a fs) ns0).1.length (ndCells (placeF (.mk k a fs) ns0).1) ∧ RPl B v v' W w' := fun W v B hB0 hW hB ho =>
    rplace_any h vals B W k a v ns0 (ks_of hW) (fun b hb hS e => by have := (own_lt ho e).1; omega) (by rw [hl]; exact hsh) good0 (by simp [ns0]; omega) hB ho
  have hfo := h
  obtain ⟨Af, cf, rfl, _, _⟩ := h.form
  clear h
  generalize placeF (.mk k a fs) ns0 = P at *
  obtain ⟨ns, root⟩ := P
  simp only at hpk hpc hfit ⊢
  obtain ⟨hG, hroot⟩ := hpk
  have hpa := fun W A' c' hr => rparts_any ns root A' c' W hG hroot hr
  have hev := fun W p A' c' (hp : p < ns.length) hr hr' => rneval_any ns p vals A' A2 c' n c2 W hG hp hr hl hr'
  have hpl := partsN_length ns root
  have hpm : ∀ p ∈ partsN ns root, p < ns.length := fun p hp => Nat.lt_of_le_of_lt (((partsN_mem hG hroot p).1 hp).1.le hG hroot).1 hroot
  have hml := hG.most
  unfold truthsN
  generalize partsN ns root = ps at *
  have hb1 : Below w.heap.size w (w.alloc (.cells #[.int .i64 k, .int .i64 a, .slice Af fs.length cf] 66)) := (Below.refl _ _).alloc (Nat.le_refl _) _
  have hbox := heap_alloc_new w (.cells #[.int .i64 k, .int .i64 a, .slice Af fs.length cf] 66)
  have HPA := Lib.hid hpa
  have HPC := Lib.hid hpc
  have HEV := Lib.hid hev
  have HPM := Lib.hid hpm
  have HR := Lib.hid hr2
  clear hpa hpc hev hpm hr2 hfo hG hsh hsz
  go_enter Try.func38, Try.ntmps38
  go_upto_region 1 with fail
  obtain ⟨W0, hW0⟩ : ∃ W, W = w.alloc (.cells #[.int .i64 k, .int .i64 a, .slice Af fs.length cf] 66) := ⟨_, rfl⟩
  rw [← hW0] at hb1 hbox ⊢
  clear hW0
  have hcs : ∀ W', Below W0.heap.size W0 W' → W'.cell? ⟨w.heap.size, 0, none⟩ = some (.int .i64 k) ∧ W'.cell? ⟨w.heap.size, 1, none⟩ = some (.int .i64 a) ∧ W'.cell? ⟨w.heap.size, 2, none⟩ = some (.slice Af fs.length cf) := fun W' hW' => by
    have h1 := (hW'.block _ (lt_of_blk hbox)).trans hbox
    exact ⟨cell_of_blk h1 0, cell_of_blk h1 1, cell_of_blk h1 2⟩
  obtain ⟨x0, x1, x2⟩ := hcs W0 (Below.refl _ _)
  have hlt0 : w.heap.size < W0.heap.size := lt_of_blk hbox
  have HB1 := Lib.hid hb1
  have HCS := Lib.hid hcs
  clear hb1 hbox hcs
  go_cut [5, 6] (fun x y wx => ∃ A5 c5, x = .slice A5 ns.length c5 ∧ y = .int .i64 (root : Nat) ∧ Rd wx 3 A5 ns.length (ndCells ns) ∧ Below W0.heap.size W0 wx)
  case first =>
    go_region_held3 (fun W' => W'.cell? ⟨w.heap.size, 0, none⟩ = some (.int .i64 k) ∧ W'.cell? ⟨w.heap.size, 1, none⟩ = some (.int .i64 a) ∧ W'.cell? ⟨w.heap.size, 2, none⟩ = some (.slice Af fs.length cf)) (first | exact HCS.out _ hb11 | exact HCS.out _ hb9 | exact HCS.out _ (below_drewA (Below.refl _ _)) | exact HCS.out _ (Below.refl _ _)) (first | (go_at_call 60; refine (rstart_any _).mono ?_; rintro e w9 ⟨v9, rfl, ho9, hx⟩; have hb9 := (Below.refl W0.heap.size W0).trans (show Below W0.heap.size W0 w9 from ⟨hx.os, hx.tape, hx.output, hx.size, hx.block⟩); have hb9w := HB1.out.trans (hb9.mono HB1.out.size); have hcall := HPC.out w9 v9 W0.heap.size HB1.out.size hb9w hb9.size (own_more ho9 (show W0.heap.size ≤ _ from Nat.le_refl _)); have HCALL := Lib.hid hcall; clear hx ho9 hcall) | (go_at_call 59; refine HCALL.out.mono ?_; rintro e w11 ⟨v11, rfl, ho11, hpl11⟩; have hb11 := hb9.trans hpl11.bel; obtain ⟨A11, c11, rfl, _, hr11⟩ := ownsRow_form ho11; have HR11 := Lib.hid hr11; clear ho11 hpl11 hr11))
    all_goals
      go_wp2_with fail
      go_meet
      exact ⟨_, _, rfl, rfl, HR11.out, hb11⟩
  case rest =>
  obtain ⟨A5, c5, rfl, rfl, hr5, hb5⟩ := hcut
  obtain ⟨w5, rfl⟩ : ∃ x, x = wc := ⟨_, rfl⟩
  have hx6 := (Below.refl w5.heap.size w5).alloc (Nat.le_refl _) (.cells #[] 4)
  have hpc2 := HPA.out _ A5 c5 (hr5.below hx6)
  have ho6 : (w5.alloc (.cells #[] 4)).ownsRow w5.heap.size 4 1 (.slice (some ⟨w5.heap.size, 0, none⟩) 0 0) 0 [] := own_empty _ _ _ (Nat.le_refl _)
  have HR5 := Lib.hid hr5
  have HB5 := Lib.hid (HB1.out.trans (hb5.mono HB1.out.size))
  have HX6 := Lib.hid hx6
  have HO6 := Lib.hid ho6
  clear hr5 hb5 hx6 ho6 x0 x1 x2
  go_wp2_with (go_at_call 61; refine hpc2.mono ?_; clear hpc2; rintro e w7 ⟨v7, rfl, hp7, hb7⟩; have hp7' := own_natI hp7 HX6.out.size; obtain ⟨A7, c7, rfl, _, _⟩ := ownsRow_form hp7'; have HP7 := Lib.hid hp7'; have hb57 := HX6.out.trans (hb7.mono HX6.out.size); have HB57 := Lib.hid hb57; have HO7 := Lib.hid (own_below HO6.out hb7); clear hp7 hp7' hb7 hb57)
  go_loopw [7, 21] (fun o x wr2 => ∃ (q : Nat) (v : Value), q ≤ ps.length ∧ x = .int .i64 (q : Int) ∧ v = o ∧ wr2.ownsRow w5.heap.size 4 1 v q (boolL ((ps.take q).map (ev ns vals))) ∧ wr2.ownsRow w5.heap.size 3 1 (.slice A7 ps.length c7) ps.length (ints (natI ps)) ∧ Below w5.heap.size w5 wr2) (fun _ x _ => ps.length - (intOf x).toNat)
  case atStart => exact ⟨0, _, Nat.zero_le _, rfl, rfl, HO7.out, HP7.out, HB57.out⟩
  case round =>
    obtain ⟨q, v, hq, rfl, rfl, hown, hrp, hbk⟩ := hrel
    by_cases hlt : q < ps.length
    · obtain ⟨b2, o2, rfl, x0⟩ := (cown_rd hrp).int q hlt (natI_length ps)
      rw [natI_getD ps q hlt] at x0
      have hkm := nat_getD_mem ps q hlt
      have htk := take_getD ps q hlt
      generalize ps.getD q 0 = kk at *
      have hkl := HPM.out kk hkm
      have hcall := HEV.out wr kk A5 c5 hkl (HR5.out.below hbk) (HR.out.below (HB5.out.trans (hbk.mono HB5.out.size)))
      have hsn : boolL ((ps.take (q + 1)).map (ev ns vals)) = boolL ((ps.take q).map (ev ns vals)) ++ [.bool (ev ns vals kk)] := by rw [htk, List.map_append, boolL_app]; rfl
      have HSN := Lib.hid hsn
      have HOW := Lib.hid hown
      have HRP := Lib.hid hrp
      have HBQ := Lib.hid hbk
      clear hsn hown hrp hbk hkm htk
      generalize ev ns vals kk = y at *
      go_wp2_with (first | (go_at_call 63; refine hcall.mono ?_; clear hcall; rintro e w8 ⟨rfl, hx⟩; have ho8 := own_below HOW.out hx; have hp8 := own_below HRP.out hx; have hb8 := HBQ.out.trans (hx.mono HBQ.out.size); have HP8 := Lib.hid hp8; have HO8 := Lib.hid ho8; clear hx hp8) | (at_builtin; refine app1 w5.heap.size w5 w8 (.bool y) 4 rfl _ _ 23 rfl i0 (.bool false) 1 Try.underlying23 hinf hz0 hz1 hz2 rfl (by decide) _ q _ rfl (Nat.le_refl _) ho8 hb8 rfl rfl (by omega) ?_))
      intro v9 w9 hown9 hb9 hg9
      have hf9 : Fr (ownS v) w8 w9 := Fr.of_grown hg9 (fun k hk => .inl hk)
      have hp9 := hf9.own HP8.out (fun b hb hs => own_own HP8.out HO8.out (by decide) hb hs)
      have HP9 := Lib.hid hp9
      clear hg9 hf9 hp9
      go_wp2_with fail
      go_roundw
      case rel => exact ⟨q + 1, _, by omega, by go_num, rfl, by rw [HSN.out, List.map_take]; exact hown9, HP9.out, hb9⟩
      case measure => simp [intOf]; omega
    · obtain rfl : q = ps.length := by omega
      rw [List.take_of_length_le (Nat.le_refl _)] at hown
      have HOW := Lib.hid hown
      have HBQ := Lib.hid hbk
      have HR6 := Lib.hid (HR.out.below (HB5.out.trans (hbk.mono HB5.out.size)))
      clear hown hbk hrp
      go_wp2_with (at_builtin; refine appR w5.heap.size w5 wr 4 rfl _ _ 23 rfl i0 (.bool false) 1 Try.underlying23 hinf hz0 hz1 hz2 rfl (by decide) _ ps.length _ rfl (Nat.le_refl _) HOW.out HBQ.out A2 n c2 (boolL vals) rfl HR6.out (boolL_one _) (by omega) ?_)
      intro v8 w8 ho8 hb8 _
      have hbw : Below w.heap.size w w8 := HB5.out.trans (hb8.mono HB5.out.size)
      have how : w8.ownsRow w.heap.size 4 1 v8 (ps.map (ev ns vals) ++ vals).length (boolL (ps.map (ev ns vals) ++ vals)) := by
        rw [boolL_app, List.length_append, List.length_map, hl]
        exact own_more ho8 HB5.out.size
      go_wp2_with fail
      go_ret
      exact ⟨_, rfl, how, hbw⟩
end Go.Proofs.Ytbcabcdgblmnkaa
