/- Contract of atom.Not. -/
import Derived.Test.YtlbbbafehhdpnaaGreatDoorRegInv
namespace Go.Proofs.YtlbbbafehhdpnaaGreatDoor
open Go.RowKit
set_option linter.unusedVariables false
set_option linter.unusedSimpArgs false

def NotA (w : World) (m K : Nat) (s : (Int → Rat) → Bool) (r : Ending) (w' : World) : Prop :=
  ∃ (A' : Option Addr) (n' c' : Nat) (l' : List AB), r = .returned (.tuple #[.slice A' n' c', .int .i64 0]) ∧ AtmsAt w' A' n' c' l' m K ∧ n' ≤ 2 ∧ Below w.heap.size w w' ∧ ∀ p, l'.any (fun a => a.says p) = !s p
theorem not_le (r : Rat) : saysQ 2 (-1 * r) = !saysQ 1 r := by
  rw [says_lt, says_le]
  by_cases h : r ≤ 0
  · rw [decide_eq_true h, decide_eq_false (by grind)]; rfl
  · rw [decide_eq_false h, decide_eq_true (by grind)]; rfl
theorem not_lt (r : Rat) : saysQ 1 (-1 * r) = !saysQ 2 r := by
  rw [says_lt, says_le]
  by_cases h : r < 0
  · rw [decide_eq_true h, decide_eq_false (by grind)]; rfl
  · rw [decide_eq_false h, decide_eq_true (by grind)]; rfl
theorem not_eq (r : Rat) : (saysQ 2 r || saysQ 2 (-1 * r)) = !saysQ 3 r := by
  rw [says_lt, says_lt, says_eq]
  by_cases h : r = 0
  · rw [decide_eq_true h, decide_eq_false (show ¬ (r < 0) by grind), decide_eq_false (show ¬ (-1 * r < 0) by grind)]; rfl
  · rw [decide_eq_false h]
    by_cases h2 : r < 0
    · rw [decide_eq_true h2]; rfl
    · rw [decide_eq_false h2, decide_eq_true (by grind)]; rfl
set_option maxRecDepth 100000 in
set_option maxHeartbeats 4000000 in
theorem not_any (A : Option Addr) (n c : Nat) (b : RB) (l : List TB) (q : Rat) (op : Int) (k : Nat) (w : World) (h : TmsAt w A n c l k) (hr : RatAt w b q) (hq : RatLe q k) (hn : n ≤ 30) (hk : k ≤ 20000) (h1 : 1 ≤ op) (h3 : op ≤ 3) :
    Calls Tryz.prog 12 #[.agg #[.slice A n c, .bool (ratNeg q), .slice b.A b.n b.c, .slice b.A2 b.n2 b.c2, .int .i64 op]] w fun r w' => NotA w n (31 * (k + 2)) (fun p => saysQ op (evE p l q)) r w' := by
  obtain ⟨s, hs⟩ : ∃ s, s = ratNeg q := ⟨_, rfl⟩
  obtain ⟨K, hK⟩ : ∃ K, K = 31 * (k + 2) := ⟨_, rfl⟩
  have HKK := Lib.hid hK
  have hcn : ∀ W, Below w.heap.size w W → Calls Tryz.prog 24 #[.agg #[.slice A n c, .bool s, .slice b.A b.n b.c, .slice b.A2 b.n2 b.c2]] W fun r w' => CanP W.heap.size W n l b q k r w' := fun W hb => by
    rw [hs]
    exact canon_any A n c b l q k W (h.below hb) hn (by omega)
  have hsc : ∀ W bi, Below w.heap.size w W → RatAt W bi (-1) → Calls Tryz.prog 19 #[.agg #[.bool (ratNeg (-1)), .slice bi.A bi.n bi.c, .slice bi.A2 bi.n2 bi.c2], .agg #[.slice A n c, .bool s, .slice b.A b.n b.c, .slice b.A2 b.n2 b.c2]] W fun e w' => ExS W n (fun p => -1 * evE p l q) K e w' := fun W bi hb hi => by
    rw [hs, hK, show 31 * (k + 2) = 31 * (1 + k + 1) by omega]
    exact scaleS bi (-1) A n c b l q 1 k W hi (m1_le 1 (Nat.le_refl _)) (h.below hb) (hr.below hb) hq hn (by omega)
  have hck := fun W => check_any A n c b s op W h1 h3
  have him := fun W => int_m1 W
  unfold RB.val at him
  rw [← hs, ← hK]
  have HS := Lib.hid hs
  have HCN := Lib.hid hcn
  have HCK := Lib.hid hck
  have HSC := Lib.hid hsc
  have HIM := Lib.hid him
  have HR := Lib.hid hr
  have HQ := Lib.hid hq
  clear hs hK hcn hck hsc him h hr hq
  go_enter Tryz.func12, Tryz.ntmps12
  go_upto_region 1 with fail
  have hx1 := heap_alloc_new w (.cells #[.slice A n c, .bool s, .slice b.A b.n b.c, .slice b.A2 b.n2 b.c2, .int .i64 op] 41)
  have zw1 : (w.alloc (.cells #[.slice A n c, .bool s, .slice b.A b.n b.c, .slice b.A2 b.n2 b.c2, .int .i64 op] 41)).heap.size = w.heap.size + 1 := by simp
  have aw1 := (Below.refl w.heap.size w).alloc (Nat.le_refl _) (.cells #[.slice A n c, .bool s, .slice b.A b.n b.c, .slice b.A2 b.n2 b.c2, .int .i64 op] 41)
  obtain ⟨w1, ew1⟩ : ∃ x, x = w.alloc (.cells #[.slice A n c, .bool s, .slice b.A b.n b.c, .slice b.A2 b.n2 b.c2, .int .i64 op] 41) := ⟨_, rfl⟩
  rw [← ew1] at hx1 zw1 aw1 ⊢
  clear ew1
  obtain ⟨x0, x1, x2, x3, x4⟩ := box5 hx1
  have HX1 := Lib.hid hx1
  have HB1 := Lib.hid aw1
  clear hx1 aw1 zw1
  have hcall := HCK.out w1
  go_upto_region 4 with (go_at_call 21; refine hcall.mono ?_; clear hcall; rintro e w3 ⟨rfl, hb3⟩)
  have hcs : ∀ W', Below w3.heap.size w3 W' → W'.cell? ⟨w.heap.size, 0, none⟩ = some (.slice A n c) ∧ W'.cell? ⟨w.heap.size, 1, none⟩ = some (.bool s) ∧ W'.cell? ⟨w.heap.size, 2, none⟩ = some (.slice b.A b.n b.c) ∧ W'.cell? ⟨w.heap.size, 3, none⟩ = some (.slice b.A2 b.n2 b.c2) ∧ W'.cell? ⟨w.heap.size, 4, none⟩ = some (.int .i64 op) := fun W' hb => box5 (box_keep (box_keep HX1.out hb3) hb)
  have HCS := Lib.hid hcs
  have HB3 := Lib.hid (HB1.out.trans (hb3.mono HB1.out.size))
  clear hcs hb3 x0 x1 x2 x3 x4 HX1 HB1
  go_cut [5] (fun v wx => BoxE wx w3.heap.size n K (fun p => -1 * evE p l q) v ∧ Below w3.heap.size w3 wx)
  case first =>
    as_aux_lemma =>
      refine region_inv (by kernel_rfl) (by kernel_rfl) [11, 12, 13, 14, 5] (NotI w3 (.agg #[.slice A n c, .bool s, .slice b.A b.n b.c, .slice b.A2 b.n2 b.c2]) (.pointer (some ⟨w.heap.size, 0, none⟩)) n K (fun p => -1 * evE p l q)) (fun f => not_start f w3) ?_ ?_
      · refine ⟨?_, ?_, ?_, ?_, ?_, ?_, trivial⟩
        · intro D a1 W hJ hD hdep K hK
          obtain ⟨f, rfl, hI⟩ := hJ
          have hc := HCS.out W hI.bel
          have HI := Lib.hid hI
          have HK := Lib.hid hK
          have HD := Lib.hid hD
          clear hI hK hD
          simp [Region.binds] at hdep
          simp only [puts, Act.put, List.setIfInBounds_toArray, List.set_cons_zero, List.set_cons_succ]
          go_simp
          go_at_call 10
          refine (HIM.out W).mono ?_
          rintro e w4 ⟨b4, rfl, hr4, hb4⟩
          go_simp
          exact HK.out _ _ ⟨upd f 11 _, rfl, (HI.out.below hb4).set0 _ ⟨b4, rfl, hr4⟩⟩
        · intro D a1 W hJ hD hdep K hK
          obtain ⟨f, rfl, hI⟩ := hJ
          have hc := HCS.out W hI.bel
          have HI := Lib.hid hI
          have HK := Lib.hid hK
          have HD := Lib.hid hD
          clear hI hK hD
          simp [Region.binds] at hdep
          simp only [puts, Act.put, List.setIfInBounds_toArray, List.set_cons_zero, List.set_cons_succ]
          go_simp
          exact HK.out _ _ ⟨upd f 12 _, rfl, HI.out.set1⟩
        · intro D a1 W hJ hD hdep K hK
          obtain ⟨f, rfl, hI⟩ := hJ
          have hc := HCS.out W hI.bel
          have HI := Lib.hid hI
          have HK := Lib.hid hK
          have HD := Lib.hid hD
          clear hI hK hD
          simp [Region.binds] at hdep
          simp only [puts, Act.put, List.setIfInBounds_toArray, List.set_cons_zero, List.set_cons_succ]
          have e0 := HI.out.p1 hdep
          simp only [e0]
          have E0 := Lib.hid e0
          obtain ⟨x0, x1, x2, x3, x4⟩ := hc
          clear e0
          go_simp
          exact HK.out _ _ ⟨upd f 13 _, by simp [puts, Act.put, upd, E0.out], HI.out.set2⟩
        · intro D a1 W hJ hD hdep K hK
          obtain ⟨f, rfl, hI⟩ := hJ
          have hc := HCS.out W hI.bel
          have HI := Lib.hid hI
          have HK := Lib.hid hK
          have HD := Lib.hid hD
          clear hI hK hD
          simp [Region.binds] at hdep
          simp only [puts, Act.put, List.setIfInBounds_toArray, List.set_cons_zero, List.set_cons_succ]
          obtain ⟨b4, e4, hr4⟩ := HI.out.i0 hdep.1
          have e2 := HI.out.l2 hdep.2.1
          simp only [e4, e2]
          have E2 := Lib.hid e2
          have E4 := Lib.hid e4
          have HR4 := Lib.hid hr4
          clear e2 e4 hr4
          go_simp
          go_at_call 19
          refine (HSC.out W b4 (HB3.out.trans (HI.out.bel.mono HB3.out.size)) HR4.out).mono ?_
          rintro e w5 ⟨A5, n5, c5, b5, l5, q5, rfl, ht5, hr5, hq5, hn5, he5, hb5⟩
          go_simp
          exact HK.out _ _ ⟨upd f 14 _, by simp [puts, Act.put, upd, E2.out, E4.out], (HI.out.below hb5).set3 _ ⟨A5, n5, c5, b5, l5, q5, rfl, ⟨ht5, hr5, hq5, hn5, he5⟩⟩⟩
        · intro D a1 W hJ hD hdep K hK
          obtain ⟨f, rfl, hI⟩ := hJ
          have hc := HCS.out W hI.bel
          have HI := Lib.hid hI
          have HK := Lib.hid hK
          have HD := Lib.hid hD
          clear hI hK hD
          simp [Region.binds] at hdep
          simp only [puts, Act.put, List.setIfInBounds_toArray, List.set_cons_zero, List.set_cons_succ]
          go_simp
          exact HK.out _ _ ⟨upd f 5 _, rfl, HI.out.set4 HD.out⟩
        · intro D a1 W hJ hD hdep K hK
          obtain ⟨f, rfl, hI⟩ := hJ
          have hc := HCS.out W hI.bel
          have HI := Lib.hid hI
          have HK := Lib.hid hK
          have HD := Lib.hid hD
          clear hI hK hD
          simp [Region.binds] at hdep
          simp only [puts, Act.put, List.setIfInBounds_toArray, List.set_cons_zero, List.set_cons_succ]
          obtain ⟨g, A', n', c', s', b', eg, hgl, hx⟩ := HI.out.a4 hdep.1
          obtain ⟨A5, n5, c5, b5, l5, q5, ev, hv⟩ := HI.out.c3 hdep.2.1
          have q0 := cell_of_blk hx 0
          have q1 := cell_of_blk hx 1
          have q2 := cell_of_blk hx 2
          have q3 := cell_of_blk hx 3
          have r0 := frozen_of_blk hx 0
          have r1 := frozen_of_blk hx 1
          have r2 := frozen_of_blk hx 2
          have r3 := frozen_of_blk hx 3
          have EG := Lib.hid eg
          have EV := Lib.hid ev
          have HV := Lib.hid hv
          have HX := Lib.hid hx
          have HDEP := Lib.hid hdep
          simp only [eg, ev]
          clear eg hv hdep hx ev
          go_simp
          exact HK.out _ _ ⟨f, by simp [puts, Act.put, EG.out, EV.out], HI.out.set5 HDEP.out.1 EG.out hgl HX.out HV.out⟩
      · intro D f W hI hall
        have hb := (hI.b5 (hall 5 (by decide))).2
        have hbel := hI.bel
        clear hI
        simp only [puts, Act.put, List.setIfInBounds_toArray, List.set_cons_zero, List.set_cons_succ]
        go_wp2_with fail
        go_meet
        exact ⟨hb, hbel⟩
  case rest =>
    obtain ⟨⟨g, A5, n5, c5, b5, l5, q5, rfl, hgl, hx, hv⟩, hbel⟩ := hcut
    obtain ⟨w5, rfl⟩ : ∃ x, x = wc := ⟨_, rfl⟩
    obtain ⟨x0, x1, x2, x3, x4⟩ := HCS.out w5 hbel
    obtain ⟨y0, y1, y2, y3⟩ := box4 hx
    have HV := Lib.hid hv
    have HX := Lib.hid hx
    have HBL := Lib.hid hbel
    have HB5 := Lib.hid (HB3.out.trans (hbel.mono HB3.out.size))
    clear hv hx hbel
    by_cases o1 : op = 1
    · subst o1
      go_wp2_with fail
      go_ret2
      have hown := World.ownsRow_lit (base := 0) (e := 41) (size := 5) w5 #[.slice A5 n5 c5, .bool (ratNeg q5), .slice b5.A b5.n b5.c, .slice b5.A2 b5.n2 b5.c2, .int .i64 2] 1 (Nat.zero_le _) (by unfold maxLen; omega) rfl
      have hv := HV.out.below ((Below.refl w5.heap.size w5).alloc (Nat.le_refl _) (.cells #[.slice A5 n5 c5, .bool (ratNeg q5), .slice b5.A b5.n b5.c, .slice b5.A2 b5.n2 b5.c2, .int .i64 2] 41))
      obtain ⟨Ax, cx, ex, ht⟩ := AtmsAt.of_own (l := [⟨A5, n5, c5, b5, l5, q5, 2⟩]) (m := n) (k := K) hown (fun a ha => by simp at ha; rw [ha]; exact ⟨hv.tms, hv.cst, hv.le, hv.few, by simp, by simp⟩)
      injection ex with e1 _ e3
      subst e1; subst e3
      refine ⟨_, _, _, _, rfl, ht, by decide, HB5.out.alloc HB5.out.size _, fun p => ?_⟩
      simp only [List.any_cons, List.any_nil, Bool.or_false, AB.says]
      rw [hv.val p, not_le]
    · by_cases o2 : op = 2
      · subst o2
        go_wp2_with fail
        go_ret2
        have hown := World.ownsRow_lit (base := 0) (e := 41) (size := 5) w5 #[.slice A5 n5 c5, .bool (ratNeg q5), .slice b5.A b5.n b5.c, .slice b5.A2 b5.n2 b5.c2, .int .i64 1] 1 (Nat.zero_le _) (by unfold maxLen; omega) rfl
        have hv := HV.out.below ((Below.refl w5.heap.size w5).alloc (Nat.le_refl _) (.cells #[.slice A5 n5 c5, .bool (ratNeg q5), .slice b5.A b5.n b5.c, .slice b5.A2 b5.n2 b5.c2, .int .i64 1] 41))
        obtain ⟨Ax, cx, ex, ht⟩ := AtmsAt.of_own (l := [⟨A5, n5, c5, b5, l5, q5, 1⟩]) (m := n) (k := K) hown (fun a ha => by simp at ha; rw [ha]; exact ⟨hv.tms, hv.cst, hv.le, hv.few, by simp, by simp⟩)
        injection ex with e1 _ e3
        subst e1; subst e3
        refine ⟨_, _, _, _, rfl, ht, by decide, HB5.out.alloc HB5.out.size _, fun p => ?_⟩
        simp only [List.any_cons, List.any_nil, Bool.or_false, AB.says]
        rw [hv.val p, not_lt]
      · have o3 : op = 3 := by omega
        subst o3
        go_upto_region 10 with fail
        clear o1 o2 x4
        have hcs5 : ∀ W', Below w5.heap.size w5 W' → (W'.cell? ⟨w.heap.size, 0, none⟩ = some (.slice A n c) ∧ W'.cell? ⟨w.heap.size, 1, none⟩ = some (.bool s) ∧ W'.cell? ⟨w.heap.size, 2, none⟩ = some (.slice b.A b.n b.c) ∧ W'.cell? ⟨w.heap.size, 3, none⟩ = some (.slice b.A2 b.n2 b.c2)) ∧ W'.cell? ⟨g, 0, none⟩ = some (.slice A5 n5 c5) ∧ W'.cell? ⟨g, 1, none⟩ = some (.bool (ratNeg q5)) ∧ W'.cell? ⟨g, 2, none⟩ = some (.slice b5.A b5.n b5.c) ∧ W'.cell? ⟨g, 3, none⟩ = some (.slice b5.A2 b5.n2 b5.c2) := fun W' hb => by
          obtain ⟨c0, c1, c2, c3, _⟩ := HCS.out W' (HBL.out.trans (hb.mono HBL.out.size))
          exact ⟨⟨c0, c1, c2, c3⟩, box4 (box_keep HX.out hb)⟩
        have HCS5 := Lib.hid hcs5
        clear hcs5 x0 x1 x2 x3 y0 y1 y2 y3
        go_region_held3 (fun W' => (W'.cell? ⟨w.heap.size, 0, none⟩ = some (.slice A n c) ∧ W'.cell? ⟨w.heap.size, 1, none⟩ = some (.bool s) ∧ W'.cell? ⟨w.heap.size, 2, none⟩ = some (.slice b.A b.n b.c) ∧ W'.cell? ⟨w.heap.size, 3, none⟩ = some (.slice b.A2 b.n2 b.c2)) ∧ W'.cell? ⟨g, 0, none⟩ = some (.slice A5 n5 c5) ∧ W'.cell? ⟨g, 1, none⟩ = some (.bool (ratNeg q5)) ∧ W'.cell? ⟨g, 2, none⟩ = some (.slice b5.A b5.n b5.c) ∧ W'.cell? ⟨g, 3, none⟩ = some (.slice b5.A2 b5.n2 b5.c2)) ((refine HCS5.out _ ?_; first | with_reducible exact k1 | with_reducible exact k1.alloc k1.size _ | with_reducible exact below_drew2 (Below.refl _ _))) (first | (go_at_call 24; refine (HCN.out _ (HB5.out.trans ((below_drew2 (Below.refl _ _)).mono HB5.out.size))).mono ?_; rintro e u1 ⟨A6, n6, c6, l6, ls6, rfl, hp6, hg6, ht6, hn6, hb6⟩; have k1 : Below w5.heap.size w5 u1 := (below_drew2 (Below.refl _ _)).trans (hb6.mono (Nat.le_refl _)); have H6 := Lib.hid (And.intro hp6 (And.intro hg6 (And.intro ht6 hn6))); clear hb6 hp6 hg6 ht6 hn6))
        all_goals
          go_wp2_with fail
          go_ret2
          obtain ⟨hp6, hg6, ht6, hn6⟩ := H6.out
          have hown := World.ownsRow_lit (base := 0) (e := 41) (size := 5) u1 #[.slice A6 n6 c6, .bool (ratNeg q), .slice b.A b.n b.c, .slice b.A2 b.n2 b.c2, .int .i64 2, .slice A5 n5 c5, .bool (ratNeg q5), .slice b5.A b5.n b5.c, .slice b5.A2 b5.n2 b5.c2, .int .i64 2] 2 (Nat.zero_le _) (by unfold maxLen; omega) rfl
          have hal := (Below.refl u1.heap.size u1).alloc (Nat.le_refl _) (.cells #[.slice A6 n6 c6, .bool (ratNeg q), .slice b.A b.n b.c, .slice b.A2 b.n2 b.c2, .int .i64 2, .slice A5 n5 c5, .bool (ratNeg q5), .slice b5.A b5.n b5.c, .slice b5.A2 b5.n2 b5.c2, .int .i64 2] 41)
          have hv := (HV.out.below k1).below hal
          have hbu := HB5.out.trans (k1.mono HB5.out.size)
          have hkk := HKK.out
          have hE6 : AOk _ n K ⟨A6, n6, c6, b, l6, q, 2⟩ := ⟨(ht6.below hal).up (by omega), (HR.out.below hbu).below hal, HQ.out.up (by omega), hn6, by simp, by simp⟩
          obtain ⟨Ax, cx, ex, ht⟩ := AtmsAt.of_own (l := [⟨A6, n6, c6, b, l6, q, 2⟩, ⟨A5, n5, c5, b5, l5, q5, 2⟩]) (m := n) (k := K) hown (fun a ha => by
            simp at ha
            rcases ha with rfl | rfl
            · exact hE6
            · exact ⟨hv.tms, hv.cst, hv.le, hv.few, by simp, by simp⟩)
          injection ex with e1 _ e3
          subst e1; subst e3
          refine ⟨_, _, _, _, rfl, ht, by decide, hbu.alloc hbu.size _, fun p => ?_⟩
          simp only [List.any_cons, List.any_nil, Bool.or_false, AB.says]
          rw [hv.val p, can_val hp6 hg6 p q, not_eq]
end Go.Proofs.YtlbbbafehhdpnaaGreatDoor
