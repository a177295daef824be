/- The walk through attesttop.AttestFractions, first part. -/
import Derived.Test.YtlbbbafehhdpnaaDoorLawBoth
import Derived.Test.YtlbbbafehhdpnaaDoorRegInv
import Derived.Test.YtlbbbafehhdpnaaDoorRtMath
import Derived.Test.YtlbbbafehhdpnaaDoorRatE
import Derived.Test.YtlbbbafehhdpnaaDoorRatJ
import Derived.Test.YtlbbbafehhdpnaaDoorFrRow
import Derived.Test.YtlbbbafehhdpnaaDoorFrKey
namespace Go.Proofs.YtlbbbafehhdpnaaDoor
open Go.RowKit
set_option linter.unusedVariables false
set_option linter.unusedSimpArgs false

attribute [local go_sem ↓] run_eqKey
set_option maxRecDepth 100000 in
set_option maxHeartbeats 4000000 in
theorem frac_law (sa sb : Bool) {w : World} {A A2 B B2 : Option Addr} {n c n2 c2 k d k2 d2 : Nat} {l m l' m' : List Nat} (h1 : Num w A n c l) (h2 : Num w A2 n2 c2 m) (h3 : Num w B k d l') (h4 : Num w B2 k2 d2 m') (mx : Int) (hm : w.cell? ⟨0, 0, none⟩ = some (.int .i64 mx)) :
    Calls Tryd.prog 4 #[.agg #[.bool sa, .slice A n c, .slice A2 n2 c2], .agg #[.bool sb, .slice B k d, .slice B2 k2 d2]] w fun e w' => e = .returned (.bool true) ∧ Below w.heap.size w w' := by
  have hlt0 : 0 < w.heap.size := World.block_lt_of_cell? w _ hm
  go_enter Tryd.func4, Tryd.ntmps4
  go_upto_region 1 with fail
  have hx1 := heap_alloc_new w (.cells #[.bool sa, .slice A n c, .slice A2 n2 c2] 48)
  have hw1 : (w.alloc (.cells #[.bool sa, .slice A n c, .slice A2 n2 c2] 48)).heap.size = w.heap.size + 1 := by simp
  have hbw := (Below.refl w.heap.size w).alloc (Nat.le_refl _) (.cells #[.bool sa, .slice A n c, .slice A2 n2 c2] 48)
  obtain ⟨wk, hwk⟩ : ∃ x, x = w.alloc (.cells #[.bool sa, .slice A n c, .slice A2 n2 c2] 48) := ⟨_, rfl⟩
  rw [← hwk] at hx1 hbw hw1 ⊢
  have hx2 := heap_alloc_new wk (.cells #[.bool sb, .slice B k d, .slice B2 k2 d2] 48)
  have hx1' := box_keep hx1 ((Below.refl _ _).alloc (Nat.le_refl _) (.cells #[.bool sb, .slice B k d, .slice B2 k2 d2] 48))
  have hbk := hbw.alloc hbw.size (.cells #[.bool sb, .slice B k d, .slice B2 k2 d2] 48)
  obtain ⟨wz, hwz⟩ : ∃ x, x = wk.alloc (.cells #[.bool sb, .slice B k d, .slice B2 k2 d2] 48) := ⟨_, rfl⟩
  rw [hw1] at hx2
  rw [← hwz] at hx2 hx1' hbk ⊢
  have hmz := (hbk.cell (p := ⟨0, 0, none⟩) hlt0).trans hm
  have hph := parse_half wz mx hmz
  unfold RB.val at hph
  have HX1 := Lib.hid hx1'
  have HX2 := Lib.hid hx2
  have HBZ := Lib.hid hbk
  have HN1 := Lib.hid (h1.below hbk)
  have HN2 := Lib.hid (h2.below hbk)
  have HN3 := Lib.hid (h3.below hbk)
  have HN4 := Lib.hid (h4.below hbk)
  have HMX := Lib.hid hm
  have HPH := Lib.hid hph
  clear hwz hwk hx1 hx1' hx2 hbw hbk hw1 h1 h2 h3 h4 hm hmz hph
  go_upto_region 2 with (go_at_call 22; refine HPH.out.mono ?_; rintro e w1 ⟨bh, rfl, hrat, hb1⟩)
  have hy1 := heap_alloc_new w1 (.cells #[.bool (ratNeg half), .slice bh.A bh.n bh.c, .slice bh.A2 bh.n2 bh.c2] 50)
  have hr1 := hrat.alloc (.cells #[.bool (ratNeg half), .slice bh.A bh.n bh.c, .slice bh.A2 bh.n2 bh.c2] 50)
  have hb2 := hb1.alloc hb1.size (.cells #[.bool (ratNeg half), .slice bh.A bh.n bh.c, .slice bh.A2 bh.n2 bh.c2] 50)
  obtain ⟨w2, hw2⟩ : ∃ x, x = w1.alloc (.cells #[.bool (ratNeg half), .slice bh.A bh.n bh.c, .slice bh.A2 bh.n2 bh.c2] 50) := ⟨_, rfl⟩
  rw [← hw2] at hy1 hr1 hb2 ⊢
  have hpr := print_any bh half w2 hr1 1 (by decide) half_le
  rw [half_print] at hpr
  unfold RB.val at hpr
  obtain ⟨x0, x1, x2⟩ := Box.of hy1
  have HPR := Lib.hid hpr
  have HB2 := Lib.hid hb2
  clear hw2 hpr hb2 hb1 hrat hr1 hy1
  go_upto_region 4 with (go_at_call 23; refine HPR.out.mono ?_; rintro e w3 ⟨rfl, hb3⟩)
  have HB3 := Lib.hid (HB2.out.trans (hb3.mono HB2.out.size))
  clear HPR HPH HB2 hb3 x0 x1 x2
  have hcs : ∀ W', Below w3.heap.size w3 W' → W'.cell? ⟨w.heap.size, 0, none⟩ = some (.bool sa) ∧ W'.cell? ⟨w.heap.size, 1, none⟩ = some (.slice A n c) ∧ W'.cell? ⟨w.heap.size, 2, none⟩ = some (.slice A2 n2 c2) ∧ W'.cell? ⟨w.heap.size + 1, 0, none⟩ = some (.bool sb) ∧ W'.cell? ⟨w.heap.size + 1, 1, none⟩ = some (.slice B k d) ∧ W'.cell? ⟨w.heap.size + 1, 2, none⟩ = some (.slice B2 k2 d2) := fun W' h => by
    have hb := HB3.out.trans (h.mono HB3.out.size)
    obtain ⟨a0, a1, a2⟩ := Box.of (box_keep HX1.out hb)
    obtain ⟨b0, b1, b2⟩ := Box.of (box_keep HX2.out hb)
    exact ⟨a0, a1, a2, b0, b1, b2⟩
  have hnx := fun W (h : Below w3.heap.size w3 W) => number_any sa (HN1.out.below (HB3.out.trans (h.mono HB3.out.size))) (HN2.out.below (HB3.out.trans (h.mono HB3.out.size)))
  have hny := fun W (h : Below w3.heap.size w3 W) => number_any sb (HN3.out.below (HB3.out.trans (h.mono HB3.out.size))) (HN4.out.below (HB3.out.trans (h.mono HB3.out.size)))
  unfold RB.val at hnx hny
  have HCS := Lib.hid hcs
  have HNX := Lib.hid hnx
  have HNY := Lib.hid hny
  clear hcs hnx hny
  have tok : True := trivial
  go_cut [7, 8] (fun x y wx => ∃ (g7 g8 : Nat) (bx bz : RB) (px py : Rat), x = .pointer (some ⟨g7, 0, none⟩) ∧ y = .pointer (some ⟨g8, 0, none⟩) ∧ g7 ≠ g8 ∧ Box3 wx g7 bx px ∧ Box3 wx g8 bz py ∧ RatAt wx bx px ∧ RatAt wx bz py ∧ RatLe px 8 ∧ RatLe py 8 ∧ Below w3.heap.size w3 wx)
  case first =>
    refine region_inv (by kernel_rfl) (by kernel_rfl) [33, 34, 35, 36, 7, 8] (Two w3 (.agg #[.bool sa, .slice A n c, .slice A2 n2 c2]) (.agg #[.bool sb, .slice B k d, .slice B2 k2 d2]) 33 34 35 36 7 8 8) (fun f => two_start f w3) ?_ ?_
    · refine ⟨?_, ?_, ?_, ?_, ?_, ?_, ?_, ?_, trivial⟩
      · intro D a1 W hJ hD hdep K hK
        obtain ⟨f, rfl, hI⟩ := hJ
        have hc := HCS.out W hI.bel
        have HI := Lib.hid hI
        have HK := Lib.hid hK
        have HD := Lib.hid hD
        clear hI hK hD
        simp [Region.binds] at hdep
        simp only [puts, Act.put, List.setIfInBounds_toArray, List.set_cons_zero, List.set_cons_succ]
        go_simp
        exact HK.out _ _ ⟨upd f 33 _, rfl, HI.out.set0 (by decide)⟩
      · intro D a1 W hJ hD hdep K hK
        obtain ⟨f, rfl, hI⟩ := hJ
        have hc := HCS.out W hI.bel
        have HI := Lib.hid hI
        have HK := Lib.hid hK
        have HD := Lib.hid hD
        clear hI hK hD
        simp [Region.binds] at hdep
        simp only [puts, Act.put, List.setIfInBounds_toArray, List.set_cons_zero, List.set_cons_succ]
        have e0 := HI.out.l0 hdep
        simp only [e0]
        have E0 := Lib.hid e0
        clear e0
        go_simp
        go_at_call 24
        refine (HNX.out _ HI.out.bel).mono ?_
        rintro e w4 ⟨bx, px, rfl, hrx, hlx, b4⟩
        go_simp
        exact HK.out _ _ ⟨upd f 34 _, by simp [puts, Act.put, upd, E0.out], (HI.out.below b4).set1 (by decide) _ ⟨bx, px, rfl, hrx, hlx⟩⟩
      · intro D a1 W hJ hD hdep K hK
        obtain ⟨f, rfl, hI⟩ := hJ
        have hc := HCS.out W hI.bel
        have HI := Lib.hid hI
        have HK := Lib.hid hK
        have HD := Lib.hid hD
        clear hI hK hD
        simp [Region.binds] at hdep
        simp only [puts, Act.put, List.setIfInBounds_toArray, List.set_cons_zero, List.set_cons_succ]
        go_simp
        exact HK.out _ _ ⟨upd f 35 _, rfl, HI.out.set2 (by decide)⟩
      · intro D a1 W hJ hD hdep K hK
        obtain ⟨f, rfl, hI⟩ := hJ
        have hc := HCS.out W hI.bel
        have HI := Lib.hid hI
        have HK := Lib.hid hK
        have HD := Lib.hid hD
        clear hI hK hD
        simp [Region.binds] at hdep
        simp only [puts, Act.put, List.setIfInBounds_toArray, List.set_cons_zero, List.set_cons_succ]
        have e0 := HI.out.l2 hdep.1
        simp only [e0]
        have E0 := Lib.hid e0
        clear e0
        go_simp
        go_at_call 24
        refine (HNY.out _ HI.out.bel).mono ?_
        rintro e w4 ⟨bx, px, rfl, hrx, hlx, b4⟩
        go_simp
        exact HK.out _ _ ⟨upd f 36 _, by simp [puts, Act.put, upd, E0.out], (HI.out.below b4).set3 (by decide) _ ⟨bx, px, rfl, hrx, hlx⟩⟩
      · intro D a1 W hJ hD hdep K hK
        obtain ⟨f, rfl, hI⟩ := hJ
        have hc := HCS.out W hI.bel
        have HI := Lib.hid hI
        have HK := Lib.hid hK
        have HD := Lib.hid hD
        clear hI hK hD
        simp [Region.binds] at hdep
        simp only [puts, Act.put, List.setIfInBounds_toArray, List.set_cons_zero, List.set_cons_succ]
        go_simp
        exact HK.out _ _ ⟨upd f 7 _, rfl, HI.out.set4 (by decide) HD.out⟩
      · intro D a1 W hJ hD hdep K hK
        obtain ⟨f, rfl, hI⟩ := hJ
        have hc := HCS.out W hI.bel
        have HI := Lib.hid hI
        have HK := Lib.hid hK
        have HD := Lib.hid hD
        clear hI hK hD
        simp [Region.binds] at hdep
        simp only [puts, Act.put, List.setIfInBounds_toArray, List.set_cons_zero, List.set_cons_succ]
        go_simp
        exact HK.out _ _ ⟨upd f 8 _, rfl, HI.out.set5 (by decide) HD.out⟩
      · intro D a1 W hJ hD hdep K hK
        obtain ⟨f, rfl, hI⟩ := hJ
        have hc := HCS.out W hI.bel
        have HI := Lib.hid hI
        have HK := Lib.hid hK
        have HD := Lib.hid hD
        clear hI hK hD
        simp [Region.binds] at hdep
        simp only [puts, Act.put, List.setIfInBounds_toArray, List.set_cons_zero, List.set_cons_succ]
        obtain ⟨g, eg, hgl, s0, A0, n0, c0, A1, n1, c1, hx⟩ := HI.out.a4 hdep.1
        obtain ⟨bx, px, ev, hr, hl⟩ := HI.out.c1 hdep.2.1
        have q0 := cell_of_blk hx 0
        have q1 := cell_of_blk hx 1
        have q2 := cell_of_blk hx 2
        have r0 := frozen_of_blk hx 0
        have r1 := frozen_of_blk hx 1
        have r2 := frozen_of_blk hx 2
        have EG := Lib.hid eg
        have EV := Lib.hid ev
        have HR := Lib.hid hr
        have HDEP := Lib.hid hdep
        simp only [eg, ev]
        clear eg hr hdep hx ev
        go_simp
        exact HK.out _ _ ⟨f, by simp [puts, Act.put, EG.out, EV.out], HI.out.set6 HR.out hl HDEP.out.1 EG.out⟩
      · intro D a1 W hJ hD hdep K hK
        obtain ⟨f, rfl, hI⟩ := hJ
        have hc := HCS.out W hI.bel
        have HI := Lib.hid hI
        have HK := Lib.hid hK
        have HD := Lib.hid hD
        clear hI hK hD
        simp [Region.binds] at hdep
        simp only [puts, Act.put, List.setIfInBounds_toArray, List.set_cons_zero, List.set_cons_succ]
        obtain ⟨g, eg, hgl, s0, A0, n0, c0, A1, n1, c1, hx⟩ := HI.out.a5 hdep.1
        obtain ⟨bx, px, ev, hr, hl⟩ := HI.out.c3 hdep.2.1
        have q0 := cell_of_blk hx 0
        have q1 := cell_of_blk hx 1
        have q2 := cell_of_blk hx 2
        have r0 := frozen_of_blk hx 0
        have r1 := frozen_of_blk hx 1
        have r2 := frozen_of_blk hx 2
        have EG := Lib.hid eg
        have EV := Lib.hid ev
        have HR := Lib.hid hr
        have HDEP := Lib.hid hdep
        simp only [eg, ev]
        clear eg hr hdep hx ev
        go_simp
        exact HK.out _ _ ⟨f, by simp [puts, Act.put, EG.out, EV.out], HI.out.set7 HR.out hl HDEP.out.1 EG.out⟩
    · intro D f W hI hall
      obtain ⟨g, bx, px, e1, _, hx1, hr1, hl1⟩ := (hI.b6 (hall 6 (by decide))).2
      obtain ⟨g', bz, py, e2, _, hx2, hr2, hl2⟩ := (hI.b7 (hall 7 (by decide))).2
      have hne := hI.ne (hall 4 (by decide)) (hall 5 (by decide))
      have hbel := hI.bel
      rw [e1, e2] at hne
      have hne : g ≠ g' := fun e => hne (by rw [e])
      clear hI
      simp only [puts, Act.put, List.setIfInBounds_toArray, List.set_cons_zero, List.set_cons_succ]
      go_wp2_with fail
      go_meet
      exact ⟨g, g', bx, bz, px, py, e1, e2, hne, hx1, hx2, hr1, hr2, hl1, hl2, hbel⟩
  case rest =>
  obtain ⟨g7, g8, bx, bz, px, py, rfl, rfl, hne, hg7, hg8, hrx, hry, hlx, hly, hb4⟩ := hcut
  obtain ⟨w4, rfl⟩ : ∃ x, x = wc := ⟨_, rfl⟩
  have hcs : ∀ W', Below w4.heap.size w4 W' → W'.cell? ⟨g7, 0, none⟩ = some (.bool (ratNeg px)) ∧ W'.cell? ⟨g7, 1, none⟩ = some (.slice bx.A bx.n bx.c) ∧ W'.cell? ⟨g7, 2, none⟩ = some (.slice bx.A2 bx.n2 bx.c2) ∧ W'.cell? ⟨g8, 0, none⟩ = some (.bool (ratNeg py)) ∧ W'.cell? ⟨g8, 1, none⟩ = some (.slice bz.A bz.n bz.c) ∧ W'.cell? ⟨g8, 2, none⟩ = some (.slice bz.A2 bz.n2 bz.c2) := fun W' h => by
    obtain ⟨a0, a1, a2⟩ := Box.of (hg7.below h)
    obtain ⟨b0, b1, b2⟩ := Box.of (hg8.below h)
    exact ⟨a0, a1, a2, b0, b1, b2⟩
  have hO : ∀ W', Below w4.heap.size w4 W' → RatAt W' bx px ∧ RatAt W' bz py := fun W' h => ⟨hrx.below h, hry.below h⟩
  have had := fun W (h : RatAt W bx px ∧ RatAt W bz py) => add_any bx bz px py W h.1 h.2 8 (by decide) hlx hly
  have hsb := fun W (h : RatAt W bx px ∧ RatAt W bz py) => sub_any bx bz px py W h.1 h.2 8 (by decide) hlx hly
  have hml := fun W (h : RatAt W bx px ∧ RatAt W bz py) => rmul_any bx bz px py W h.1 h.2 8 (by decide) hlx hly
  have hng := fun W (h : RatAt W bx px ∧ RatAt W bz py) => neg_any bx px W h.1
  have hab := fun W (h : RatAt W bx px ∧ RatAt W bz py) => abs_any (ratNeg py) bz W
  have hfl := fun W (h : RatAt W bx px ∧ RatAt W bz py) => floor_any bx px W h.1 8 (by decide) hlx (by decide)
  unfold RB.val at had hsb hml hng hab hfl
  have HCS4 := Lib.hid hcs
  have HO := Lib.hid hO
  have HAD := Lib.hid had
  have HSB := Lib.hid hsb
  have HML := Lib.hid hml
  have HNG := Lib.hid hng
  have HAB := Lib.hid hab
  have HFL := Lib.hid hfl
  have HG7 := Lib.hid hg7
  have HG8 := Lib.hid hg8
  have HLX := Lib.hid hlx
  have HLY := Lib.hid hly
  have HNE := Lib.hid hne
  have HB4 := Lib.hid (HB3.out.trans (hb4.mono HB3.out.size))
  clear hcs hO had hsb hml hng hab hfl hg7 hg8 hrx hry hlx hly hne hb4 HCS HNX HNY HB3 HN1 HN2 HN3 HN4
  go_upto_region 5 with fail
  go_cut [9] (fun x wx => ∃ (l : List (RB × Rat)) (g : Nat), l.length = 8 ∧ x = .slice (some ⟨g, 0, none⟩) 8 8 ∧ w4.heap.size ≤ g ∧ wx.heap[g]? = some (.cells (ratsL l).toArray 50 (0, 0)) ∧ Rats wx x l 40 ∧ Below w4.heap.size w4 wx)
  case first =>
    go_region_held3 (fun W' => W'.cell? ⟨g7, 0, none⟩ = some (.bool (ratNeg px)) ∧ W'.cell? ⟨g7, 1, none⟩ = some (.slice bx.A bx.n bx.c) ∧ W'.cell? ⟨g7, 2, none⟩ = some (.slice bx.A2 bx.n2 bx.c2) ∧ W'.cell? ⟨g8, 0, none⟩ = some (.bool (ratNeg py)) ∧ W'.cell? ⟨g8, 1, none⟩ = some (.slice bz.A bz.n bz.c) ∧ W'.cell? ⟨g8, 2, none⟩ = some (.slice bz.A2 bz.n2 bz.c2)) ((refine HCS4.out _ ?_; first | with_reducible exact c6 | with_reducible exact c6.alloc c6.size _ | with_reducible exact c5 | with_reducible exact c4 | with_reducible exact c3 | with_reducible exact c2 | with_reducible exact c1 | with_reducible exact below_drew2 (Below.refl _ _))) (first | (go_at_call 25; refine (HAD.out _ (HO.out _ (below_drew2 (Below.refl _ _)))).mono ?_; rintro e u1 ⟨b1, rfl, hr1, hb1⟩; have c1 : Below w4.heap.size w4 u1 := (below_drew2 (Below.refl _ _)).trans (hb1.mono (Nat.le_refl _)); have R1 := Lib.hid hr1; clear hr1 hb1) | (go_at_call 26; refine (HSB.out _ (HO.out _ c1)).mono ?_; rintro e u2 ⟨b2, rfl, hr2, hb2⟩; have c2 : Below w4.heap.size w4 u2 := c1.trans (hb2.mono c1.size); have R2 := Lib.hid (And.intro (R1.out.below hb2) hr2); clear hr2 hb2) | (go_at_call 27; refine (HML.out _ (HO.out _ c2)).mono ?_; rintro e u3 ⟨b3, rfl, hr3, hb3⟩; have c3 : Below w4.heap.size w4 u3 := c2.trans (hb3.mono c2.size); have R3 := Lib.hid (And.intro (R2.out.1.below hb3) (And.intro (R2.out.2.below hb3) hr3)); clear hr3 hb3) | (go_at_call 28; refine (HNG.out _ (HO.out _ c3)).mono ?_; rintro e u4 ⟨rfl, hr4, hb4⟩; have c4 : Below w4.heap.size w4 u4 := c3.trans (hb4.mono c3.size); have R4 := Lib.hid (And.intro (R3.out.1.below hb4) (And.intro (R3.out.2.1.below hb4) (And.intro (R3.out.2.2.below hb4) hr4))); clear hr4 hb4) | (go_at_call 29; refine (HAB.out _ (HO.out _ c4)).mono ?_; rintro e u5 ⟨rfl, hb5⟩; have c5 : Below w4.heap.size w4 u5 := c4.trans (hb5.mono c4.size); have R5 := Lib.hid (And.intro (R4.out.1.below hb5) (And.intro (R4.out.2.1.below hb5) (And.intro (R4.out.2.2.1.below hb5) (R4.out.2.2.2.below hb5)))); clear hb5) | (go_at_call 30; refine (HFL.out _ (HO.out _ c5)).mono ?_; rintro e u6 ⟨b6, rfl, hr6, hb6⟩; have c6 : Below w4.heap.size w4 u6 := c5.trans (hb6.mono c5.size); have R6 := Lib.hid (And.intro (R5.out.1.below hb6) (And.intro (R5.out.2.1.below hb6) (And.intro (R5.out.2.2.1.below hb6) (And.intro (R5.out.2.2.2.below hb6) hr6)))); clear hr6 hb6))
    all_goals
      go_wp2_with fail
      go_meet
      obtain ⟨r1, r2, r3, r4, r6⟩ := R6.out
      obtain ⟨rx, ry⟩ := HO.out _ c6
      have hl := HLX.out
      have hl2 := HLY.out
      have hown := World.ownsRow_lit (base := 0) (e := 50) (size := 3) u6 #[Value.bool (ratNeg px), Value.slice bx.A bx.n bx.c, Value.slice bx.A2 bx.n2 bx.c2, Value.bool (ratNeg py), Value.slice bz.A bz.n bz.c, Value.slice bz.A2 bz.n2 bz.c2, Value.bool (ratNeg (px + py)), Value.slice b1.A b1.n b1.c, Value.slice b1.A2 b1.n2 b1.c2, Value.bool (ratNeg (px - py)), Value.slice b2.A b2.n b2.c, Value.slice b2.A2 b2.n2 b2.c2, Value.bool (ratNeg (px * py)), Value.slice b3.A b3.n b3.c, Value.slice b3.A2 b3.n2 b3.c2, Value.bool (ratNeg (-px)), Value.slice bx.A bx.n bx.c, Value.slice bx.A2 bx.n2 bx.c2, Value.bool false, Value.slice bz.A bz.n bz.c, Value.slice bz.A2 bz.n2 bz.c2, Value.bool (ratNeg (floorQ px)), Value.slice b6.A b6.n b6.c, Value.slice b6.A2 b6.n2 b6.c2] 8 (Nat.zero_le _) (by unfold maxLen; omega) rfl
      refine ⟨[(bx, px), (bz, py), (b1, px + py), (b2, px - py), (b3, px * py), (bx, -px), (bz, absQ py), (b6, floorQ px)], _, rfl, rfl, c6.size, ?_, ⟨?_, ?_⟩, c6.alloc c6.size _⟩
      · rw [← absQ_neg py]
        exact heap_alloc_new _ _
      · rw [← absQ_neg py] at hown ⊢
        exact hown
      · intro p hp
        simp only [List.mem_cons, List.not_mem_nil, or_false] at hp
        rcases hp with rfl | rfl | rfl | rfl | rfl | rfl | rfl | rfl
        · exact ⟨rx.alloc _, hl.up (by decide)⟩
        · exact ⟨ry.alloc _, hl2.up (by decide)⟩
        · exact ⟨r1.alloc _, (add_le hl hl2).up (by decide)⟩
        · exact ⟨r2.alloc _, by rw [Rat.sub_eq_add_neg]; exact (add_le hl (neg_le hl2)).up (by decide)⟩
        · exact ⟨r3.alloc _, (mul_le hl hl2).up (by decide)⟩
        · exact ⟨r4.alloc _, (neg_le hl).up (by decide)⟩
        · exact ⟨(absQ_at ry).alloc _, (absQ_le hl2).up (by decide)⟩
        · exact ⟨r6.alloc _, (floorQ_le hl (by decide)).up (by decide)⟩
  case rest =>
  obtain ⟨l9, g9, hl9, rfl, hgw9, hgc9, hr9, hb9⟩ := hcut
  obtain ⟨w9, rfl⟩ : ∃ x, x = wc := ⟨_, rfl⟩
  obtain ⟨rx, ry⟩ := HO.out _ hb9
  have hdv := div_cases bx bz px py w9 rx ry 8 (by decide) (by decide) HLX.out HLY.out
  unfold RB.val at hdv
  obtain ⟨a0, a1, a2, a3, a4, a5⟩ := HCS4.out _ hb9
  have HR9 := Lib.hid hr9
  have HL9 := Lib.hid hl9
  have HB9 := Lib.hid hb9
  have HDV := Lib.hid hdv
  have HGC9 := Lib.hid hgc9
  clear hr9 hb9 rx ry hdv hgc9 hl9
  go_upto_if 61 with (go_at_call 31; refine HDV.out.mono ?_; rintro e w5 ⟨b10, q10, rfl, hr10, hl10, hb10⟩)
  have hr9' := HR9.out.below hb10
  have hb10' := hb10.alloc hb10.size (.cells #[.bool (ratNeg q10), .slice b10.A b10.n b10.c, .slice b10.A2 b10.n2 b10.c2] 50)
  have hbx := HB9.out.trans (hb10.mono HB9.out.size)
  have hx10 := heap_alloc_new w5 (.cells #[.bool (ratNeg q10), .slice b10.A b10.n b10.c, .slice b10.A2 b10.n2 b10.c2] 50)
  have hr10' := hr10.alloc (.cells #[.bool (ratNeg q10), .slice b10.A b10.n b10.c, .slice b10.A2 b10.n2 b10.c2] 50)
  have hr9' := hr9'.below ((Below.refl _ _).alloc (Nat.le_refl _) (.cells #[.bool (ratNeg q10), .slice b10.A b10.n b10.c, .slice b10.A2 b10.n2 b10.c2] 50))
  have hbx := hbx.alloc hbx.size (.cells #[.bool (ratNeg q10), .slice b10.A b10.n b10.c, .slice b10.A2 b10.n2 b10.c2] 50)
  obtain ⟨w10, hw10⟩ : ∃ x, x = w5.alloc (.cells #[.bool (ratNeg q10), .slice b10.A b10.n b10.c, .slice b10.A2 b10.n2 b10.c2] 50) := ⟨_, rfl⟩
  obtain ⟨ok, hok⟩ : ∃ x, x = !decide (py = 0) := ⟨_, rfl⟩
  rw [← hw10] at hx10 hr10' hr9' hbx hb10' ⊢
  rw [← hok]
  clear hw10 hok
  obtain ⟨x0, x1, x2⟩ := Box.of hx10
  have HR9' := Lib.hid hr9'
  have HR10 := Lib.hid hr10'
  have HL10 := Lib.hid hl10
  have HBX := Lib.hid hbx
  have HGC := Lib.hid (box_keep HGC9.out hb10')
  clear hr9' hr10' hl10 hbx hx10 hr10 hb10 hb10' HDV a0 a1 a2 a3 a4 a5
  go_cut [9] (fun x wx => ∃ l : List (RB × Rat), 8 ≤ l.length ∧ l.length ≤ 9 ∧ Rats wx x l 40 ∧ Below w4.heap.size w4 wx)
  case first =>
    cases ok
    · go_wp2_with fail
      go_meet
      exact ⟨l9, Nat.le_of_eq HL9.out.symm, by rw [HL9.out]; decide, HR9'.out, HBX.out⟩
    · have hown := HR9'.out.own
      rw [HL9.out] at hown
      have HO9 := Lib.hid hown
      obtain ⟨i0, hi, hz0, hz1, hz2⟩ := info_parts info_rat
      clear hown
      go_wp2_with (at_builtin; refine appS w10 3 #[.bool (ratNeg q10), .slice b10.A b10.n b10.c, .slice b10.A2 b10.n2 b10.c2] 50 rfl (.tmp 62) (.tmp 64) 57 rfl i0 _ 56 Tryd.underlying57 hi hz0 hz1 hz2 rfl (by decide) (by decide) rfl (.slice (some ⟨g9, 0, none⟩) 8 8) 8 (ratsL l9) rfl HO9.out rfl (ratL_one b10 q10) (by decide) ?_; intro v6 w6 hown6 hfr6 hbk6)
      go_meet
      have hfr : Fr (fun b => b = g9) w10 w6 := hfr6.mono fun b _ hb => by
        have : g9 = b := by simpa [ownS, Value.ownBlock] using hb
        exact this.symm
      have he := HR9'.out.fr hfr HGC.out
      have hl9' := HL9.out
      refine ⟨l9 ++ [(b10, q10)], by simp [hl9'], by simp [hl9'], ⟨?_, ?_⟩, HBX.out.trans (hfr.below HBX.out.size (fun b hb => by rw [hb]; exact hgw9))⟩
      · rw [ratsL_app, List.length_append, hl9']
        exact hown6
      · intro p hp
        rcases List.mem_append.1 hp with hp | hp
        · exact he p hp
        · simp only [List.mem_cons, List.not_mem_nil, or_false] at hp
          subst hp
          exact ⟨rat_fr HR10.out hfr HGC.out, HL10.out.up (by decide)⟩
  case rest =>
  obtain ⟨l, hl8, hl9, hr11, hb11⟩ := hcut
  obtain ⟨w11, rfl⟩ : ∃ x, x = wc := ⟨_, rfl⟩
  obtain ⟨g, cp, rfl, hg11, hcp⟩ := hr11.form (by omega)
  have HR11 := Lib.hid hr11
  have HB11 := Lib.hid hb11
  have hmx : ∀ W, Below w11.heap.size w11 W → W.cell? ⟨0, 0, none⟩ = some (.int .i64 mx) := fun W h => by
    have hb := HBZ.out.trans ((HB4.out.trans ((HB11.out.trans (h.mono HB11.out.size)).mono HB4.out.size)).mono HBZ.out.size)
    exact (hb.cell (p := ⟨0, 0, none⟩) hlt0).trans HMX.out
  have HMX11 := Lib.hid hmx
  clear hr11 hb11 hcp hmx HR9' HR10 HL10 HBX HR9 HB9 HL9 HGC HGC9 hg11
  obtain ⟨n9, hn9⟩ : ∃ x, x = l.length := ⟨_, rfl⟩
  rw [← hn9] at hl8 hl9 ⊢
  have HN9 := Lib.hid hn9
  clear hn9
  go_wp2_with fail
  go_loopw [68] (fun i wr => ∃ k : Nat, k ≤ n9 ∧ i = .int .i64 k ∧ Below w11.heap.size w11 wr) (fun i _ => n9 - (intOf i).toNat)
  case atStart => exact ⟨0, Nat.zero_le _, rfl, Below.refl _ _⟩
  case round =>
    obtain ⟨k, hk, rfl, hb12⟩ := hrel
    obtain ⟨w12, rfl⟩ : ∃ x, x = wr := ⟨_, rfl⟩
    by_cases hlt : k < n9
    · obtain ⟨b, q, hlq, y0, y1, y2, hrq, hlqe⟩ := (HR11.out.below hb12).at_ (i := k) (by rw [← HN9.out]; exact hlt)
      have hpr := fun W (h : RatAt W b q) => print_any b q W h 40 (by decide) hlqe
      have hrp := fun W (hm : W.cell? ⟨0, 0, none⟩ = some (.int .i64 mx)) => rparse_any q W mx hm 40 (by decide) hlqe
      have hpa := fun W (h : RatAt W b q) => parts_any b q W h 40 (by decide) hlqe
      unfold RB.val at hpr hrp hpa
      have HB12 := Lib.hid hb12
      have HRQ := Lib.hid hrq
      have HLQ := Lib.hid hlqe
      have HPR := Lib.hid hpr
      have HRP := Lib.hid hrp
      have HPA := Lib.hid hpa
      have HQL := Lib.hid hlq
      clear hb12 hrq hlqe hpr hrp hpa hlq
      go_upto_region 12 with fail
      have hx13 := heap_alloc_new w12 (.cells #[.bool (ratNeg q), .slice b.A b.n b.c, .slice b.A2 b.n2 b.c2] 50)
      have hbx := (Below.refl w12.heap.size w12).alloc (Nat.le_refl _) (.cells #[.bool (ratNeg q), .slice b.A b.n b.c, .slice b.A2 b.n2 b.c2] 50)
      obtain ⟨w13, hV⟩ : ∃ x, x = w12.alloc (.cells #[.bool (ratNeg q), .slice b.A b.n b.c, .slice b.A2 b.n2 b.c2] 50) := ⟨_, rfl⟩
      rw [← hV] at hx13 hbx ⊢
      clear hV
      obtain ⟨x0, x1, x2⟩ := Box.of hx13
      have HX13 := Lib.hid hx13
      have HB13 := Lib.hid (HB12.out.trans (hbx.mono HB12.out.size))
      have HC13 := Lib.hid (HRQ.out.below hbx)
      clear hx13 hbx y0 y1 y2
      have hcall := HPR.out _ HC13.out
      go_upto_region 13 with (first | (go_at_call 23; refine hcall.mono ?_; clear hcall; rintro e v1 ⟨rfl, hv1⟩; have c1 := HB13.out.trans (hv1.mono HB13.out.size); have hcall := HRP.out _ (HMX11.out _ c1)) | (go_at_call 22; refine hcall.mono ?_; clear hcall; rintro e v2 ⟨b14, rfl, hr14, hv2⟩))
      have HV2 := Lib.hid (hv1.trans (hv2.mono hv1.size))
      have hx14 := heap_alloc_new v2 (.cells #[.bool (ratNeg q), .slice b14.A b14.n b14.c, .slice b14.A2 b14.n2 b14.c2] 50)
      have hbx := (Below.refl v2.heap.size v2).alloc (Nat.le_refl _) (.cells #[.bool (ratNeg q), .slice b14.A b14.n b14.c, .slice b14.A2 b14.n2 b14.c2] 50)
      obtain ⟨w14, hV⟩ : ∃ x, x = v2.alloc (.cells #[.bool (ratNeg q), .slice b14.A b14.n b14.c, .slice b14.A2 b14.n2 b14.c2] 50) := ⟨_, rfl⟩
      rw [← hV] at hx14 hbx ⊢
      clear hV
      have HX14 := Lib.hid hx14
      have hv14 := HV2.out.trans (hbx.mono HV2.out.size)
      have HV14 := Lib.hid hv14
      have HR14 := Lib.hid (hr14.below hbx)
      have HB14 := Lib.hid (HB13.out.trans (hv14.mono HB13.out.size))
      obtain ⟨x0, x1, x2⟩ := Box.of (box_keep HX13.out hv14)
      clear hx14 hv1 hv2 c1 hr14 hbx HV2
      have hcall := HPA.out _ (HC13.out.below hv14)
      clear hv14
      go_upto_region 14 with (go_at_call 32; refine hcall.mono ?_; clear hcall; rintro e v3 ⟨A16, n16, c16, A17, n17, c17, rfl, h16, h17, hv3⟩)
      have hmk := make_self h16 h17 HLQ.out
      have H16 := Lib.hid h16
      have H17 := Lib.hid h17
      have HV3 := Lib.hid hv3
      clear h16 h17 hv3 x0 x1 x2
      go_upto_region 15 with (go_at_call 33; refine hmk.mono ?_; clear hmk; rintro e v4 ⟨b19, rfl, hr19, hv4⟩)
      have hx19 := heap_alloc_new v4 (.cells #[.bool (ratNeg q), .slice b19.A b19.n b19.c, .slice b19.A2 b19.n2 b19.c2] 50)
      have hbx := (Below.refl v4.heap.size v4).alloc (Nat.le_refl _) (.cells #[.bool (ratNeg q), .slice b19.A b19.n b19.c, .slice b19.A2 b19.n2 b19.c2] 50)
      obtain ⟨w19, hV⟩ : ∃ x, x = v4.alloc (.cells #[.bool (ratNeg q), .slice b19.A b19.n b19.c, .slice b19.A2 b19.n2 b19.c2] 50) := ⟨_, rfl⟩
      rw [← hV] at hx19 hbx ⊢
      clear hV
      have HX19 := Lib.hid hx19
      have hv19 := HV3.out.trans ((hv4.trans (hbx.mono hv4.size)).mono HV3.out.size)
      have HV19 := Lib.hid hv19
      have HR19 := Lib.hid (hr19.below hbx)
      have HB19 := Lib.hid (HB14.out.trans (hv19.mono HB14.out.size))
      have hn16 := (H16.out.below hv4).below hbx
      have hn17 := (H17.out.below hv4).below hbx
      have hr14 := HR14.out.below hv19
      have hr13 := (HC13.out.below HV14.out).below hv19
      obtain ⟨x0, x1, x2⟩ := Box.of (box_keep (box_keep HX13.out HV14.out) hv19)
      obtain ⟨y0, y1, y2⟩ := Box.of (box_keep HX14.out hv19)
      obtain ⟨z0, z1, z2⟩ := Box.of hx19
      have HN16 := Lib.hid hn16
      have HN17 := Lib.hid hn17
      have HR13 := Lib.hid hr13
      have hcall := alike_self hr14 hr13 HLQ.out
      clear hx19 hv4 hr19 hbx hv19 hn16 hn17 hr14 hr13
      have tok : True := trivial
      go_upto_region 17 with (first | (go_at_call 34; have _t := tok; refine hcall.mono ?_; clear hcall tok _t; rintro e v5 ⟨rfl, hv5⟩; have hcall := alike_self (HR19.out.below hv5) (HR13.out.below hv5) HLQ.out; have tok1 : True := trivial; obtain ⟨x0, x1, x2⟩ := Box.of (box_keep (box_keep (box_keep HX13.out HV14.out) HV19.out) hv5); obtain ⟨z0, z1, z2⟩ := Box.of (box_keep HX19.out hv5)) | (go_at_call 34; have _t := tok1; refine hcall.mono ?_; clear hcall tok1 _t; rintro e v6 ⟨rfl, hv6⟩; have HV6 := Lib.hid (hv5.trans (hv6.mono hv5.size)); have hcall := gcd_one_num (HN16.out.below HV6.out) (HN17.out.below HV6.out) HLQ.out; have tok2 : True := trivial) | (go_at_call 35; have _t := tok2; refine hcall.mono ?_; clear hcall tok2 _t; rintro e v7 ⟨k7, o7, c7, rfl, h7, h7c, hv7⟩; have HV7 := Lib.hid (HV6.out.trans (hv7.mono HV6.out.size)); have hcall := gcd_one_num (HN16.out.below HV7.out) (HN17.out.below HV7.out) HLQ.out; have tok3 : True := trivial) | (go_at_call 35; have _t := tok3; refine hcall.mono ?_; clear hcall tok3 _t; rintro e v8 ⟨k8, o8, c8, rfl, h8, h8c, hv8⟩; have HV8 := Lib.hid (HV7.out.trans (hv8.mono HV7.out.size))))
      have HB20 := Lib.hid (HB19.out.trans (HV8.out.mono HB19.out.size))
      have hk13 : ∀ W', Below v8.heap.size v8 W' → W'.heap[w12.heap.size]? = some (.cells #[.bool (ratNeg q), .slice b.A b.n b.c, .slice b.A2 b.n2 b.c2] 50 (0, 0)) := fun W' h => box_keep (box_keep (box_keep (box_keep HX13.out HV14.out) HV19.out) HV8.out) h
      have hr13 : ∀ W', Below v8.heap.size v8 W' → RatAt W' b q := fun W' h => (HR13.out.below HV8.out).below h
      have HK13 := Lib.hid hk13
      have HR13' := Lib.hid hr13
      clear hk13 hr13 x0 x1 x2 y0 y1 y2 z0 z1 z2 hv5 hv6 hv7 hv8 h7 h7c h8 h8c HR13 HN16 HN17 HR14 HR19 HX14 HX19 H16 H17 HV3 HV6 HV7 HV14 HC13 HPR HRP HPA HRQ
      go_wp2_with fail
      go_loopw [21] (fun x wr => ∃ j : Nat, j ≤ k ∧ x = .int .i64 j ∧ Below v8.heap.size v8 wr) (fun x _ => k - (intOf x).toNat)
      case atStart => exact ⟨0, Nat.zero_le _, rfl, Below.refl _ _⟩
      case round =>
        obtain ⟨j, hj, rfl, hb21⟩ := hrel
        obtain ⟨w21, rfl⟩ : ∃ x, x = wr := ⟨_, rfl⟩
        by_cases hjk : j < k
        · have hbl : ∀ W', Below w21.heap.size w21 W' → Below w11.heap.size w11 W' := fun W' h => HB20.out.trans ((hb21.trans (h.mono hb21.size)).mono HB20.out.size)
          obtain ⟨bj, qj, _, y0, y1, y2, hrj, hlj⟩ := (HR11.out.below (hbl _ (Below.refl _ _))).at_ (i := j) (by rw [← HN9.out]; omega)
          have hcs : ∀ W', Below w21.heap.size w21 W' → W'.cell? ⟨g, j * 3, none⟩ = some (.bool (ratNeg qj)) ∧ W'.cell? ⟨g, j * 3 + 1, none⟩ = some (.slice bj.A bj.n bj.c) ∧ W'.cell? ⟨g, j * 3 + 2, none⟩ = some (.slice bj.A2 bj.n2 bj.c2) ∧ W'.cell? ⟨w12.heap.size, 0, none⟩ = some (.bool (ratNeg q)) ∧ W'.cell? ⟨w12.heap.size, 1, none⟩ = some (.slice b.A b.n b.c) ∧ W'.cell? ⟨w12.heap.size, 2, none⟩ = some (.slice b.A2 b.n2 b.c2) := fun W' h => by
            obtain ⟨a0, a1, a2⟩ := Box.of (HK13.out _ (hb21.trans (h.mono hb21.size)))
            exact ⟨(h.cell (World.block_lt_of_cell? w21 _ y0)).trans y0, (h.cell (World.block_lt_of_cell? w21 _ y1)).trans y1, (h.cell (World.block_lt_of_cell? w21 _ y2)).trans y2, a0, a1, a2⟩
          have hal := fun W (h : Below w21.heap.size w21 W) => alike_any bj b qj q W (hrj.below h) (HR13'.out W (hb21.trans (h.mono hb21.size))) 40 (by decide) hlj HLQ.out
          have hk1 := fun W (h : Below w21.heap.size w21 W) => key_any bj qj W (hrj.below h) 40 (by decide) hlj
          have hk2 := fun W (h : Below w21.heap.size w21 W) => key_any b q W (HR13'.out W (hb21.trans (h.mono hb21.size))) 40 (by decide) HLQ.out
          unfold RB.val at hal hk1 hk2
          unfold keyVal at hk1 hk2
          obtain ⟨k1, hk1e⟩ : ∃ x, x = keyStr qj.num.natAbs := ⟨_, rfl⟩
          obtain ⟨k2, hk2e⟩ : ∃ x, x = keyStr qj.den := ⟨_, rfl⟩
          obtain ⟨k3, hk3e⟩ : ∃ x, x = keyStr q.num.natAbs := ⟨_, rfl⟩
          obtain ⟨k4, hk4e⟩ : ∃ x, x = keyStr q.den := ⟨_, rfl⟩
          obtain ⟨sj, hsj⟩ : ∃ x, x = ratNeg qj := ⟨_, rfl⟩
          obtain ⟨sq, hsq⟩ : ∃ x, x = decide (qj = q) := ⟨_, rfl⟩
          have hke := key_eq qj q
          rw [← hk1e, ← hk2e, ← hk3e, ← hk4e, ← hsj, ← hsq] at hke
          rw [← hk1e, ← hk2e] at hk1
          rw [← hk3e, ← hk4e] at hk2
          rw [← hsj] at hk1 hal hcs
          rw [← hsq] at hal
          have HSQ := Lib.hid (And.intro hk1e (And.intro hk2e (And.intro hk3e (And.intro hk4e (And.intro hsj hsq)))))
          have HCS5 := Lib.hid hcs
          have HAL := Lib.hid hal
          have HK1 := Lib.hid hk1
          have HK2 := Lib.hid hk2
          have HB21 := Lib.hid hb21
          have b0 : (0 : Int) ≤ (j : Int) := by omega
          have b1 : (j : Int) < (n9 : Int) := by omega
          have b2 : j < n9 := by omega
          clear hbl y0 y1 y2 hrj hlj hcs hal hk1 hk2 hb21 hk1e hk2e hk3e hk4e hsj hsq
          have tka : True := trivial
          go_upto_region 20 with fail
          go_region_held3 (fun W' => W'.cell? ⟨g, j * 3, none⟩ = some (.bool sj) ∧ W'.cell? ⟨g, j * 3 + 1, none⟩ = some (.slice bj.A bj.n bj.c) ∧ W'.cell? ⟨g, j * 3 + 2, none⟩ = some (.slice bj.A2 bj.n2 bj.c2) ∧ W'.cell? ⟨w12.heap.size, 0, none⟩ = some (.bool (ratNeg q)) ∧ W'.cell? ⟨w12.heap.size, 1, none⟩ = some (.slice b.A b.n b.c) ∧ W'.cell? ⟨w12.heap.size, 2, none⟩ = some (.slice b.A2 b.n2 b.c2)) ((refine HCS5.out _ ?_; first | with_reducible exact c3 | with_reducible exact c2 | with_reducible exact c1 | with_reducible exact below_drew2 (Below.refl _ _))) (first | (go_at_call 34; refine (HAL.out _ (below_drew2 (Below.refl _ _))).mono ?_; rintro e v5 ⟨rfl, hv5⟩; have c1 : Below w21.heap.size w21 v5 := (below_drew2 (Below.refl _ _)).trans (hv5.mono (Nat.le_refl _)); clear hv5) | (go_at_call 36; have _t := tka; refine (HK1.out _ c1).mono ?_; rintro e v6 ⟨rfl, hv6⟩; have c2 : Below w21.heap.size w21 v6 := c1.trans (hv6.mono c1.size); have tkb : True := trivial; clear hv6 tka _t) | (go_at_call 36; have _t := tkb; refine (HK2.out _ c2).mono ?_; rintro e v7 ⟨rfl, hv7⟩; have c3 : Below w21.heap.size w21 v7 := c2.trans (hv7.mono c2.size); clear hv7 tkb _t))
          all_goals
            go_wp2_with fail
            go_roundw
            case rel => exact ⟨j + 1, by omega, by go_num, HB21.out.trans (c3.mono HB21.out.size)⟩
            case measure => simp [intOf]; omega
        · obtain rfl : j = k := by omega
          have HB21 := Lib.hid hb21
          clear hb21
          go_wp2_with fail
          go_roundw
          case rel => exact ⟨j + 1, by omega, by go_num, HB20.out.trans (HB21.out.mono HB20.out.size)⟩
          case measure => simp [intOf]; omega
    · obtain rfl : k = n9 := by omega
      have hb4 := HB11.out.trans (hb12.mono HB11.out.size)
      have hcs := HCS4.out
      have HCSf := Lib.hid (fun W' (h : Below w12.heap.size w12 W') => hcs W' (hb4.trans (h.mono hb4.size)))
      have hrx : ∀ W', Below w12.heap.size w12 W' → RatAt W' bx px ∧ RatAt W' bz py := fun W' h => HO.out W' (hb4.trans (h.mono hb4.size))
      have hsb := fun W (h : Below w12.heap.size w12 W) => sub_any bx bz px py W (hrx W h).1 (hrx W h).2 8 (by decide) HLX.out HLY.out
      have hls : RatLe (px - py) 20 := by rw [Rat.sub_eq_add_neg]; exact (add_le HLX.out (neg_le HLY.out)).up (by decide)
      have had := fun W bs (h : Below w12.heap.size w12 W) (hs : RatAt W bs (px - py)) => add_any bs bz (px - py) py W hs (hrx W h).2 20 (by decide) hls (HLY.out.up (by decide))
      have hal := fun W ba (h : Below w12.heap.size w12 W) (hs : RatAt W ba px) => alike_self (b2 := bx) hs (hrx W h).1 (HLX.out.up (by decide))
      simp only [Rat.sub_add_cancel] at had
      unfold RB.val at hsb had
      have HSBf := Lib.hid hsb
      have HADf := Lib.hid had
      have HALf := Lib.hid hal
      have HBf := Lib.hid (HBZ.out.trans ((HB4.out.trans (hb4.mono HB4.out.size)).mono HBZ.out.size))
      have hcmp := fun W => cmp_num (Num.nil_ W) (Num.nil_ W) (by decide) (by decide)
      rw [show cmpN (lv []) (lv []) = 0 by decide] at hcmp
      have HCM := Lib.hid hcmp
      clear hcs hb4 hrx hsb hls had hal hcmp hb12
      go_upto_region 23 with fail
      go_region_held3 (fun W' => W'.cell? ⟨g7, 0, none⟩ = some (.bool (ratNeg px)) ∧ W'.cell? ⟨g7, 1, none⟩ = some (.slice bx.A bx.n bx.c) ∧ W'.cell? ⟨g7, 2, none⟩ = some (.slice bx.A2 bx.n2 bx.c2) ∧ W'.cell? ⟨g8, 0, none⟩ = some (.bool (ratNeg py)) ∧ W'.cell? ⟨g8, 1, none⟩ = some (.slice bz.A bz.n bz.c) ∧ W'.cell? ⟨g8, 2, none⟩ = some (.slice bz.A2 bz.n2 bz.c2)) ((refine HCSf.out _ ?_; first | with_reducible exact c4 | with_reducible exact c3 | with_reducible exact c2 | with_reducible exact c1 | with_reducible exact below_drew2 (Below.refl _ _))) (first | (go_at_call 26; refine (HSBf.out _ (below_drew2 (Below.refl _ _))).mono ?_; rintro e v1 ⟨bs, rfl, hrs, hv1⟩; have c1 : Below w12.heap.size w12 v1 := (below_drew2 (Below.refl _ _)).trans (hv1.mono (Nat.le_refl _)); have HRS := Lib.hid hrs; clear hv1 hrs) | (go_at_call 25; refine (HADf.out _ _ c1 HRS.out).mono ?_; rintro e v2 ⟨ba, rfl, hra, hv2⟩; have c2 : Below w12.heap.size w12 v2 := c1.trans (hv2.mono c1.size); have HRA := Lib.hid hra; clear hv2 hra) | (go_at_call 34; refine (HALf.out _ _ c2 HRA.out).mono ?_; rintro e v3 ⟨rfl, hv3⟩; have c3 : Below w12.heap.size w12 v3 := c2.trans (hv3.mono c2.size); clear hv3) | (go_at_call 14; refine (HCM.out _).mono ?_; rintro e v4 ⟨rfl, nq, rfl⟩; have c4 : Below w12.heap.size w12 (v3.drewN nq) := below_drewN c3 nq))
      all_goals
        go_wp2_with fail
        go_ret
        exact ⟨rfl, HBf.out.trans (c4.mono HBf.out.size)⟩
end Go.Proofs.YtlbbbafehhdpnaaDoor

namespace Go.Proofs.YtlbbbafehhdpnaaDoor
open Go.RowKit
set_option linter.unusedVariables false
theorem fractions_law {w : World} (sa : Bool) {A A2 : Option Addr} {n c n2 c2 : Nat} {l m : List Nat} (h1 : Num w A n c l) (h2 : Num w A2 n2 c2 m) (sb : Bool) {B B2 : Option Addr} {k d k2 d2 : Nat} {l' m' : List Nat} (h3 : Num w B k d l') (h4 : Num w B2 k2 d2 m') (mx : Int) (hm : w.cell? ⟨0, 0, none⟩ = some (.int .i64 mx)) :
    Calls Tryd.prog 4 #[.agg #[.bool sa, .slice A n c, .slice A2 n2 c2], .agg #[.bool sb, .slice B k d, .slice B2 k2 d2]] w fun e w' => e = .returned (.bool true) ∧ Below w.heap.size w w' :=
  frac_law sa sb h1 h2 h3 h4 mx hm
end Go.Proofs.YtlbbbafehhdpnaaDoor
