/- Contracts of lin.Var, lin.Of, lin.Sub. -/
import Derived.Test.YtlbbbafehhdpnaaGreatDoorLinScale
namespace Go.Proofs.YtlbbbafehhdpnaaGreatDoor
open Go.RowKit
set_option linter.unusedVariables false
set_option linter.unusedSimpArgs false

/-- an expression stands there whose value is f, of at most m terms. -/
def ExS (w : World) (m : Nat) (f : (Int → Rat) → Rat) (k : Nat) (r : Ending) (w' : World) : Prop :=
  ∃ (A' : Option Addr) (n' c' : Nat) (b' : RB) (l' : List TB) (q' : Rat), r = .returned (.agg #[.slice A' n' c', .bool (ratNeg q'), .slice b'.A b'.n b'.c, .slice b'.A2 b'.n2 b'.c2]) ∧ TmsAt w' A' n' c' l' k ∧ RatAt w' b' q' ∧ RatLe q' k ∧ n' ≤ m ∧ (∀ p, evE p l' q' = f p) ∧ Below w.heap.size w w'
theorem evT_one (p : Int → Rat) (v : Int) (q : Rat) : evT p [(v, q)] = q * p v := by simp only [evT]; grind
set_option maxRecDepth 100000 in
set_option maxHeartbeats 4000000 in
theorem var_any (v : Int) (w : World) (h1 : -9223372036854775808 ≤ v) (h2 : v ≤ 9223372036854775807) :
    Calls Tryz.prog 8 #[.int .i64 v] w fun r w' => ExS w 1 (fun p => p v) 1 r w' := by
  go_enter Tryz.func8, Tryz.ntmps8
  go_upto_region 1 with fail
  have hx1 := heap_alloc_new w (.cells #[.slice none 0 0, .bool false, .slice none 0 0, .slice none 0 0] 35)
  have zw1 : (w.alloc (.cells #[.slice none 0 0, .bool false, .slice none 0 0, .slice none 0 0] 35)).heap.size = w.heap.size + 1 := by simp
  have aw1 := (Below.refl w.heap.size w).alloc (Nat.le_refl _) (.cells #[.slice none 0 0, .bool false, .slice none 0 0, .slice none 0 0] 35)
  obtain ⟨w1, ew1⟩ : ∃ x, x = w.alloc (.cells #[.slice none 0 0, .bool false, .slice none 0 0, .slice none 0 0] 35) := ⟨_, rfl⟩
  rw [← ew1] at hx1 zw1 aw1 ⊢
  clear ew1
  have hi := int_p1 w1
  unfold RB.val at hi
  have HX1 := Lib.hid hx1
  have HA1 := Lib.hid aw1
  have HI := Lib.hid hi
  clear hx1 aw1 hi zw1
  go_wp2_with (go_at_call 10; refine HI.out.mono ?_; rintro e w2 ⟨b2, rfl, hr2, hb2⟩; have hx2 := (alloc_old (.cells #[.int .i64 v, .bool (ratNeg 1), .slice b2.A b2.n b2.c, .slice b2.A2 b2.n2 b2.c2] 70) (lt_of_blk (box_keep HX1.out hb2))).trans (box_keep HX1.out hb2); obtain ⟨p0, p1, p2, p3⟩ := box4 hx2; have z0 := frozen_of_blk hx2 0; have z1 := frozen_of_blk hx2 1; have z2 := frozen_of_blk hx2 2; have z3 := frozen_of_blk hx2 3; have HX2 := Lib.hid hx2; have HR2 := Lib.hid hr2; have HB2 := Lib.hid hb2; clear hx2 hr2 hb2)
  refine bodyPost_ret (v := .agg #[.slice (some ⟨w2.heap.size, 0, none⟩) 1 1, .bool false, .slice none 0 0, .slice none 0 0]) (by simp [results, Tryz.results8, go_sem, p0, p1, p2, p3]) rfl ?_
  have hown := World.ownsRow_lit (base := 0) (e := 70) (size := 4) w2 #[.int .i64 v, .bool (ratNeg 1), .slice b2.A b2.n b2.c, .slice b2.A2 b2.n2 b2.c2] 1 (Nat.zero_le _) (by unfold maxLen; omega) rfl
  have hok : TOk (w2.alloc (.cells #[.int .i64 v, .bool (ratNeg 1), .slice b2.A b2.n b2.c, .slice b2.A2 b2.n2 b2.c2] 70)) 1 (b2, (v, 1)) := ⟨HR2.out.alloc _, p1_le 1 (Nat.le_refl _), h1, h2⟩
  obtain ⟨Ax, cx, ex, ht⟩ := TmsAt.of_own (l := [(b2, (v, (1 : Rat)))]) (k := 1) hown (fun t ht => by simp at ht; rw [ht]; exact hok)
  injection ex with e1 _ e3
  subst e1; subst e3
  have hbel := HA1.out.trans ((HB2.out.alloc HB2.out.size (.cells #[.int .i64 v, .bool (ratNeg 1), .slice b2.A b2.n b2.c, .slice b2.A2 b2.n2 b2.c2] 70)).mono HA1.out.size)
  refine ⟨some ⟨w2.heap.size, 0, none⟩, 1, 1, ⟨none, 0, 0, none, 0, 0⟩, [(b2, (v, 1))], 0, by rw [zero_neg], ht.fr (store4_fr _ w.heap.size _ 1 1 false ⟨none, 0, 0, none, 0, 0⟩) (typ_of HX2.out (by decide)), zero_at _, zero_le 1 (Nat.le_refl _), Nat.le_refl _, ?_, store4_bel hbel (Nat.le_refl _) _ 1 1 false ⟨none, 0, 0, none, 0, 0⟩⟩
  intro p
  unfold evE tmsOf
  simp only [List.map_cons, List.map_nil]
  rw [evT_one]; grind
set_option maxRecDepth 100000 in
set_option maxHeartbeats 4000000 in
theorem of_any (br : RB) (r : Rat) (k : Nat) (w : World) (hr : RatAt w br r) (hk : RatLe r k) :
    Calls Tryz.prog 9 #[.agg #[.bool (ratNeg r), .slice br.A br.n br.c, .slice br.A2 br.n2 br.c2]] w fun e w' => ExS w 0 (fun _ => r) k e w' := by
  obtain ⟨s, hs⟩ : ∃ s, s = ratNeg r := ⟨_, rfl⟩
  rw [← hs]
  have HS := Lib.hid hs
  clear hs
  go_enter Tryz.func9, Tryz.ntmps9
  go_upto_region 1 with fail
  have hx1 := heap_alloc_new w (.cells #[.bool s, .slice br.A br.n br.c, .slice br.A2 br.n2 br.c2] 33)
  have zw1 : (w.alloc (.cells #[.bool s, .slice br.A br.n br.c, .slice br.A2 br.n2 br.c2] 33)).heap.size = w.heap.size + 1 := by simp
  have aw1 := (Below.refl w.heap.size w).alloc (Nat.le_refl _) (.cells #[.bool s, .slice br.A br.n br.c, .slice br.A2 br.n2 br.c2] 33)
  obtain ⟨w1, ew1⟩ : ∃ x, x = w.alloc (.cells #[.bool s, .slice br.A br.n br.c, .slice br.A2 br.n2 br.c2] 33) := ⟨_, rfl⟩
  rw [← ew1] at hx1 zw1 aw1 ⊢
  clear ew1
  have hx2 := heap_alloc_new w1 (.cells #[.slice none 0 0, .bool false, .slice none 0 0, .slice none 0 0] 35)
  have zw2 : (w1.alloc (.cells #[.slice none 0 0, .bool false, .slice none 0 0, .slice none 0 0] 35)).heap.size = w1.heap.size + 1 := by simp
  have aw2 := (Below.refl w1.heap.size w1).alloc (Nat.le_refl _) (.cells #[.slice none 0 0, .bool false, .slice none 0 0, .slice none 0 0] 35)
  obtain ⟨w2, ew2⟩ : ∃ x, x = w1.alloc (.cells #[.slice none 0 0, .bool false, .slice none 0 0, .slice none 0 0] 35) := ⟨_, rfl⟩
  rw [← ew2] at hx2 zw2 aw2 ⊢
  clear ew2
  rw [zw1] at hx2
  have hv1 := box_keep hx1 aw2
  have b2 := aw1.trans (aw2.mono aw1.size)
  obtain ⟨x0, x1, x2⟩ := boxk hv1
  obtain ⟨p0, p1, p2, p3⟩ := box4 hx2
  have z0 := frozen_of_blk hx2 0
  have z1 := frozen_of_blk hx2 1
  have z2 := frozen_of_blk hx2 2
  have z3 := frozen_of_blk hx2 3
  have HX2 := Lib.hid hx2
  have HB2 := Lib.hid b2
  have HR := Lib.hid (hr.below b2)
  have HK := Lib.hid hk
  clear hv1 b2 hx1 hx2 aw1 aw2 zw1 zw2 hr hk
  go_wp2_with fail
  refine bodyPost_ret (v := .agg #[.slice none 0 0, .bool s, .slice br.A br.n br.c, .slice br.A2 br.n2 br.c2]) (by simp [results, Tryz.results9, go_sem, p0, p1, p2, p3]) rfl ?_
  refine ⟨none, 0, 0, br, [], r, by rw [HS.out], TmsAt.nil_ _ _, HR.out.frB (store4_fr _ (w.heap.size + 1) none 0 0 s br) (typ_of HX2.out (by decide)), HK.out, Nat.le_refl _, ?_, store4_bel HB2.out (Nat.le_succ _) _ _ _ _ _⟩
  intro p
  unfold evE tmsOf
  simp only [List.map_nil, evT]; grind
theorem addS (A : Option Addr) (n c : Nat) (b : RB) (l : List TB) (q : Rat) (A2 : Option Addr) (n2 c2 : Nat) (b2 : RB) (l2 : List TB) (q2 : Rat) (k : Nat) (w : World) (h : TmsAt w A n c l k) (hr : RatAt w b q) (hq : RatLe q k) (h2 : TmsAt w A2 n2 c2 l2 k) (hr2 : RatAt w b2 q2) (hq2 : RatLe q2 k) (hn : n + n2 ≤ 30) (hk : k ≤ 30000) :
    Calls Tryz.prog 14 #[.agg #[.slice A n c, .bool (ratNeg q), .slice b.A b.n b.c, .slice b.A2 b.n2 b.c2], .agg #[.slice A2 n2 c2, .bool (ratNeg q2), .slice b2.A b2.n b2.c, .slice b2.A2 b2.n2 b2.c2]] w fun r w' => ExS w (n + n2) (fun p => evE p l q + evE p l2 q2) (31 * (k + 1)) r w' := by
  refine (eadd_any A n c b l q A2 n2 c2 b2 l2 q2 k w h hr hq h2 hr2 hq2 hn hk).mono ?_
  rintro e w' ⟨A', n', c', b', l', ls, rfl, hp, hg, ht, hr', hq', hn', hb⟩
  refine ⟨A', n', c', b', l', q + q2, rfl, ht, hr', hq'.up (by omega), hn', fun p => ?_, hb⟩
  unfold evE
  rw [hg, evT_grp, evT_perm p hp, tmsOf_app, evT_app]
  grind
theorem scaleS (br : RB) (r : Rat) (A : Option Addr) (n c : Nat) (b : RB) (l : List TB) (q : Rat) (kr k : Nat) (w : World) (hrr : RatAt w br r) (hrl : RatLe r kr) (h : TmsAt w A n c l k) (hr : RatAt w b q) (hq : RatLe q k) (hn : n ≤ 30) (hk : kr + k ≤ 30000) :
    Calls Tryz.prog 19 #[.agg #[.bool (ratNeg r), .slice br.A br.n br.c, .slice br.A2 br.n2 br.c2], .agg #[.slice A n c, .bool (ratNeg q), .slice b.A b.n b.c, .slice b.A2 b.n2 b.c2]] w fun e w' => ExS w n (fun p => r * evE p l q) (31 * (kr + k + 1)) e w' := by
  refine (scale_any br r A n c b l q kr k w hrr hrl h hr hq hn hk).mono ?_
  rintro e w' ⟨l2, h2, A', n', c', b', l', ls, rfl, hp, hg, ht, hr', hq', hn', hb⟩
  refine ⟨A', n', c', b', l', r * q, rfl, ht, hr', hq'.up (by omega), hn', fun p => ?_, hb⟩
  unfold evE
  rw [hg, evT_grp, evT_perm p hp, h2, evT_sc]
  grind
set_option maxRecDepth 100000 in
set_option maxHeartbeats 4000000 in
theorem subS (A : Option Addr) (n c : Nat) (b : RB) (l : List TB) (q : Rat) (A2 : Option Addr) (n2 c2 : Nat) (b2 : RB) (l2 : List TB) (q2 : Rat) (k : Nat) (w : World) (h : TmsAt w A n c l k) (hr : RatAt w b q) (hq : RatLe q k) (h2 : TmsAt w A2 n2 c2 l2 k) (hr2 : RatAt w b2 q2) (hq2 : RatLe q2 k) (hn : n + n2 ≤ 30) (hk : k ≤ 900) :
    Calls Tryz.prog 7 #[.agg #[.slice A n c, .bool (ratNeg q), .slice b.A b.n b.c, .slice b.A2 b.n2 b.c2], .agg #[.slice A2 n2 c2, .bool (ratNeg q2), .slice b2.A b2.n b2.c, .slice b2.A2 b2.n2 b2.c2]] w fun r w' => ExS w (n + n2) (fun p => evE p l q - evE p l2 q2) (31 * (31 * (k + 2) + 1)) r w' := by
  obtain ⟨s, hs⟩ : ∃ s, s = ratNeg q := ⟨_, rfl⟩
  obtain ⟨s2, hs2⟩ : ∃ s2, s2 = ratNeg q2 := ⟨_, rfl⟩
  rw [← hs, ← hs2]
  have HS := Lib.hid hs
  have HS2 := Lib.hid hs2
  clear hs hs2
  go_enter Tryz.func7, Tryz.ntmps7
  go_upto_region 1 with fail
  have hx1 := heap_alloc_new w (.cells #[.slice A n c, .bool s, .slice b.A b.n b.c, .slice b.A2 b.n2 b.c2] 35)
  have zw1 : (w.alloc (.cells #[.slice A n c, .bool s, .slice b.A b.n b.c, .slice b.A2 b.n2 b.c2] 35)).heap.size = w.heap.size + 1 := by simp
  have aw1 := (Below.refl w.heap.size w).alloc (Nat.le_refl _) (.cells #[.slice A n c, .bool s, .slice b.A b.n b.c, .slice b.A2 b.n2 b.c2] 35)
  obtain ⟨w1, ew1⟩ : ∃ x, x = w.alloc (.cells #[.slice A n c, .bool s, .slice b.A b.n b.c, .slice b.A2 b.n2 b.c2] 35) := ⟨_, rfl⟩
  rw [← ew1] at hx1 zw1 aw1 ⊢
  clear ew1
  have hx2 := heap_alloc_new w1 (.cells #[.slice A2 n2 c2, .bool s2, .slice b2.A b2.n b2.c, .slice b2.A2 b2.n2 b2.c2] 35)
  have zw2 : (w1.alloc (.cells #[.slice A2 n2 c2, .bool s2, .slice b2.A b2.n b2.c, .slice b2.A2 b2.n2 b2.c2] 35)).heap.size = w1.heap.size + 1 := by simp
  have aw2 := (Below.refl w1.heap.size w1).alloc (Nat.le_refl _) (.cells #[.slice A2 n2 c2, .bool s2, .slice b2.A b2.n b2.c, .slice b2.A2 b2.n2 b2.c2] 35)
  obtain ⟨w2, ew2⟩ : ∃ x, x = w1.alloc (.cells #[.slice A2 n2 c2, .bool s2, .slice b2.A b2.n b2.c, .slice b2.A2 b2.n2 b2.c2] 35) := ⟨_, rfl⟩
  rw [← ew2] at hx2 zw2 aw2 ⊢
  clear ew2
  have hx3 := heap_alloc_new w2 (.cells #[.slice none 0 0, .bool false, .slice none 0 0, .slice none 0 0] 35)
  have zw3 : (w2.alloc (.cells #[.slice none 0 0, .bool false, .slice none 0 0, .slice none 0 0] 35)).heap.size = w2.heap.size + 1 := by simp
  have aw3 := (Below.refl w2.heap.size w2).alloc (Nat.le_refl _) (.cells #[.slice none 0 0, .bool false, .slice none 0 0, .slice none 0 0] 35)
  obtain ⟨w3, ew3⟩ : ∃ x, x = w2.alloc (.cells #[.slice none 0 0, .bool false, .slice none 0 0, .slice none 0 0] 35) := ⟨_, rfl⟩
  rw [← ew3] at hx3 zw3 aw3 ⊢
  clear ew3
  rw [zw1] at hx2
  rw [zw2, zw1] at hx3
  have b3 : Below w.heap.size w w3 := (aw1.trans (aw2.mono aw1.size)).trans (aw3.mono (aw1.trans (aw2.mono aw1.size)).size)
  have hv1 := box_keep (box_keep hx1 aw2) aw3
  have hv2 := box_keep hx2 aw3
  have hz3 : w3.heap.size = w.heap.size + 1 + 1 + 1 := by rw [zw3, zw2, zw1]
  have hcs : ∀ W', Fr (fun kk => kk = w.heap.size + 1 + 1) w3 W' → (W'.cell? ⟨w.heap.size, 0, none⟩ = some (.slice A n c) ∧ W'.cell? ⟨w.heap.size, 1, none⟩ = some (.bool s) ∧ W'.cell? ⟨w.heap.size, 2, none⟩ = some (.slice b.A b.n b.c) ∧ W'.cell? ⟨w.heap.size, 3, none⟩ = some (.slice b.A2 b.n2 b.c2)) ∧ W'.cell? ⟨w.heap.size + 1, 0, none⟩ = some (.slice A2 n2 c2) ∧ W'.cell? ⟨w.heap.size + 1, 1, none⟩ = some (.bool s2) ∧ W'.cell? ⟨w.heap.size + 1, 2, none⟩ = some (.slice b2.A b2.n b2.c) ∧ W'.cell? ⟨w.heap.size + 1, 3, none⟩ = some (.slice b2.A2 b2.n2 b2.c2) := fun W' hb => ⟨box4 ((hb.block _ (lt_of_blk hv1) (by omega)).trans hv1), box4 ((hb.block _ (lt_of_blk hv2) (by omega)).trans hv2)⟩
  have him := fun W => int_m1 W
  have hsc := fun W (hb : Below w3.heap.size w3 W) bi (hi : RatAt W bi (-1)) => scaleS bi (-1) A2 n2 c2 b2 l2 q2 1 k W hi (m1_le 1 (Nat.le_refl _)) ((h2.below b3).below hb) ((hr2.below b3).below hb) hq2 (by omega) (by omega)
  have had := fun W (hb : Below w3.heap.size w3 W) A' n' c' b' l' q' (ht : TmsAt W A' n' c' l' (31 * (1 + k + 1))) (hr' : RatAt W b' q') (hq' : RatLe q' (31 * (1 + k + 1))) (hn' : n' ≤ n2) => addS A n c b l q A' n' c' b' l' q' (31 * (1 + k + 1)) W (((h.below b3).below hb).up (by omega)) ((hr.below b3).below hb) (hq.up (by omega)) ht hr' hq' (by omega) (by omega)
  unfold RB.val at him
  rw [← HS2.out] at hsc
  rw [← HS.out] at had
  have HCS := Lib.hid hcs
  have HIM := Lib.hid him
  have HSC := Lib.hid hsc
  have HAD := Lib.hid had
  have HX3 := Lib.hid hx3
  have HB3 := Lib.hid b3
  have HLN := Lib.hid h.len
  clear hcs him hsc had hx3 hx1 hx2 hv1 hv2 b3 aw1 aw2 aw3 zw1 zw2 zw3 hz3 h hr hq h2 hr2 hq2
  go_region_held3 (fun W' => (W'.cell? ⟨w.heap.size, 0, none⟩ = some (.slice A n c) ∧ W'.cell? ⟨w.heap.size, 1, none⟩ = some (.bool s) ∧ W'.cell? ⟨w.heap.size, 2, none⟩ = some (.slice b.A b.n b.c) ∧ W'.cell? ⟨w.heap.size, 3, none⟩ = some (.slice b.A2 b.n2 b.c2)) ∧ W'.cell? ⟨w.heap.size + 1, 0, none⟩ = some (.slice A2 n2 c2) ∧ W'.cell? ⟨w.heap.size + 1, 1, none⟩ = some (.bool s2) ∧ W'.cell? ⟨w.heap.size + 1, 2, none⟩ = some (.slice b2.A b2.n b2.c) ∧ W'.cell? ⟨w.heap.size + 1, 3, none⟩ = some (.slice b2.A2 b2.n2 b2.c2)) ((refine HCS.out _ ?_; repeat' (first | with_reducible exact Fr.of_below k3 | with_reducible exact Fr.of_below k2 | with_reducible exact Fr.of_below k1 | with_reducible exact (Fr.refl _ _).drew | with_reducible refine fr_set ?_ ?_ | exact .inl rfl))) (first | (go_at_call 10; refine (HIM.out _).mono ?_; rintro e u1 ⟨b1, rfl, hr1, hb1⟩; have k1 : Below w3.heap.size w3 u1 := (below_drew2 (Below.refl _ _)).trans (hb1.mono (Nat.le_refl _)); have HR1 := Lib.hid hr1; clear hr1 hb1) | (go_at_call 19; refine (HSC.out _ k1 _ HR1.out).mono ?_; rintro e u2 ⟨A5, n5, c5, b5, l5, q5, rfl, ht5, hr5, hq5, hn5, he5, hb5⟩; have k2 : Below w3.heap.size w3 u2 := k1.trans (hb5.mono k1.size); have H5 := Lib.hid (And.intro ht5 (And.intro hr5 (And.intro hq5 (And.intro hn5 he5)))); clear hb5 ht5 hr5 hq5 hn5 he5) | (go_at_call 14; refine (HAD.out _ k2 _ _ _ _ _ _ H5.out.1 H5.out.2.1 H5.out.2.2.1 H5.out.2.2.2.1).mono ?_; rintro e u3 ⟨A6, n6, c6, b6, l6, q6, rfl, ht6, hr6, hq6, hn6, he6, hb6⟩; have k3 : Below w3.heap.size w3 u3 := k2.trans (hb6.mono k2.size); have HX4 := Lib.hid (box_keep HX3.out k3); obtain ⟨y0, y1, y2, y3⟩ := box4 HX4.out; have z0 := frozen_of_blk HX4.out 0; have z1 := frozen_of_blk HX4.out 1; have z2 := frozen_of_blk HX4.out 2; have z3 := frozen_of_blk HX4.out 3; have H6 := Lib.hid (And.intro ht6 (And.intro hr6 (And.intro hq6 (And.intro hn6 he6)))); clear hb6 ht6 hr6 hq6 hn6 he6))
  all_goals
    go_wp2_with fail
    refine bodyPost_ret (v := .agg #[.slice A6 n6 c6, .bool (ratNeg q6), .slice b6.A b6.n b6.c, .slice b6.A2 b6.n2 b6.c2]) (by simp [results, Tryz.results7, go_sem, y0, y1, y2, y3]) rfl ?_
    have hbel := HB3.out.trans (k3.mono HB3.out.size)
    have hfr := store4_fr u3 (w.heap.size + 1 + 1) A6 n6 c6 (ratNeg q6) b6
    have hty := typ_of HX4.out (by decide)
    obtain ⟨ht6, hr6, hq6, hn6, he6⟩ := H6.out
    obtain ⟨_, _, _, hn5, he5⟩ := H5.out
    refine ⟨A6, n6, c6, b6, l6, q6, rfl, (ht6.fr hfr hty).up (by omega), hr6.frB hfr hty, hq6.up (by omega), by omega, fun p => ?_, store4_bel hbel (by omega) _ _ _ _ _⟩
    rw [he6 p, he5 p]
    grind
end Go.Proofs.YtlbbbafehhdpnaaGreatDoor
