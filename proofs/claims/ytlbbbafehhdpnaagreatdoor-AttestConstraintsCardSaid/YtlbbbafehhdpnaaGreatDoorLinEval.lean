/- Contract of lin.Eval. -/
import Derived.Test.YtlbbbafehhdpnaaGreatDoorLinVar
namespace Go.Proofs.YtlbbbafehhdpnaaGreatDoor
open Go.RowKit
set_option linter.unusedVariables false
set_option linter.unusedSimpArgs false

def ratL (b : RB) (q : Rat) : List Value := [.bool (ratNeg q), .slice b.A b.n b.c, .slice b.A2 b.n2 b.c2]
def ratsL (l : List (RB × Rat)) : List Value := l.flatMap fun p => ratL p.1 p.2
theorem ratsL_cons (p : RB × Rat) (l : List (RB × Rat)) : ratsL (p :: l) = ratL p.1 p.2 ++ ratsL l := List.flatMap_cons
theorem ratsL_app (l m : List (RB × Rat)) : ratsL (l ++ m) = ratsL l ++ ratsL m := List.flatMap_append
theorem ratsL_len : ∀ l : List (RB × Rat), (ratsL l).length = l.length * 3
  | [] => rfl
  | p :: l => by
    have := ratsL_len l
    rw [ratsL_cons, List.length_append, this, List.length_cons]
    simp [ratL]
    omega
theorem ratsL_at : ∀ (l : List (RB × Rat)) (k : Nat) (p : RB × Rat), l[k]? = some p → ∀ j, j < 3 → (ratsL l)[k * 3 + j]? = (ratL p.1 p.2)[j]?
  | [], k, p, h, _, _ => by simp at h
  | p' :: l, 0, p, h, j, hj => by
    simp at h
    subst h
    rw [ratsL_cons, List.getElem?_append_left (by simp [ratL]; omega)]
    simp
  | p' :: l, k + 1, p, h, j, hj => by
    have ih := ratsL_at l k p (by simpa using h) j hj
    have hl : (ratL p'.1 p'.2).length = 3 := rfl
    rw [ratsL_cons, List.getElem?_append_right (by omega), hl, show (k + 1) * 3 + j - 3 = k * 3 + j by omega]
    exact ih
/-- a point: the slice reads as these numbers. -/
structure PtsAt (w : World) (A : Option Addr) (n c : Nat) (l : List (RB × Rat)) (k : Nat) : Prop where
  rd : Rd w 3 A n (ratsL l)
  len : l.length = n
  cap : n ≤ c
  each : ∀ p ∈ l, RatAt w p.1 p.2 ∧ RatLe p.2 k
theorem PtsAt.below {w w' : World} {A : Option Addr} {n c k : Nat} {l : List (RB × Rat)} (h : PtsAt w A n c l k) (hb : Below w.heap.size w w') : PtsAt w' A n c l k := ⟨h.rd.below hb, h.len, h.cap, fun p hp => ⟨(h.each p hp).1.below hb, (h.each p hp).2⟩⟩
theorem Rd.at3 {w : World} {A : Option Addr} {n : Nat} {l : List (RB × Rat)} (h : Rd w 3 A n (ratsL l)) (hl : l.length = n) {i : Nat} (hi : i < n) : ∃ (g off : Nat) (p : RB × Rat), A = some ⟨g, off, none⟩ ∧ l[i]? = some p ∧ w.cell? ⟨g, off + i * 3, none⟩ = some (.bool (ratNeg p.2)) ∧ w.cell? ⟨g, off + i * 3 + 1, none⟩ = some (.slice p.1.A p.1.n p.1.c) ∧ w.cell? ⟨g, off + i * 3 + 2, none⟩ = some (.slice p.1.A2 p.1.n2 p.1.c2) := by
  obtain ⟨g, off, e, hc⟩ := h.2 (by omega)
  have hl' : i < l.length := by omega
  have key := ratsL_at l i l[i] (List.getElem?_eq_getElem hl')
  refine ⟨g, off, l[i], e, List.getElem?_eq_getElem hl', ?_, ?_, ?_⟩
  · have := hc (i * 3) _ ((key 0 (by decide)).trans rfl)
    exact this
  · have := hc (i * 3 + 1) _ ((key 1 (by decide)).trans rfl)
    rwa [← Nat.add_assoc] at this
  · have := hc (i * 3 + 2) _ ((key 2 (by decide)).trans rfl)
    rwa [← Nat.add_assoc] at this
/-- where the variables are. -/
def ptOf (l : List (RB × Rat)) : Int → Rat := ptAt (l.map (·.2))
theorem ptOf_in {l : List (RB × Rat)} {i : Nat} {p : RB × Rat} (h : l[i]? = some p) : ptOf l (i : Int) = p.2 := by
  obtain ⟨hi, rfl⟩ := List.getElem?_eq_some_iff.1 h
  unfold ptOf ptAt
  rw [if_pos (by simp; omega), Int.toNat_natCast]
  simp [List.getD, hi]
theorem ptOf_out {l : List (RB × Rat)} {v : Int} (h : ¬ (0 ≤ v ∧ v < l.length)) : ptOf l v = 0 := by
  unfold ptOf ptAt
  rw [if_neg (by simpa using h)]
theorem evT_next (p : Int → Rat) {l : List TB} {i : Nat} {t : TB} (h : l[i]? = some t) : evT p ((tmsOf l).take (i + 1)) = evT p ((tmsOf l).take i) + t.2.2 * p t.2.1 := by
  rw [List.take_add_one, show (tmsOf l)[i]? = some t.2 by unfold tmsOf; rw [List.getElem?_map, h]; rfl, evT_app]
  simp only [Option.toList_some, evT]
  grind
set_option maxRecDepth 100000 in
set_option maxHeartbeats 4000000 in
theorem eval_any (A : Option Addr) (n c : Nat) (b : RB) (l : List TB) (q : Rat) (k : Nat) (A2 : Option Addr) (n2 c2 : Nat) (ps : List (RB × Rat)) (kp : Nat) (w : World) (h : TmsAt w A n c l k) (hr : RatAt w b q) (hq : RatLe q k) (hp : PtsAt w A2 n2 c2 ps kp) (hn : n ≤ 30) (hk : k + kp ≤ 30000) :
    Calls Tryz.prog 23 #[.agg #[.slice A n c, .bool (ratNeg q), .slice b.A b.n b.c, .slice b.A2 b.n2 b.c2], .slice A2 n2 c2] w fun r w' => ∃ b' : RB, r = .returned (.agg #[.bool (ratNeg (evE (ptOf ps) l q)), .slice b'.A b'.n b'.c, .slice b'.A2 b'.n2 b'.c2]) ∧ RatAt w' b' (evE (ptOf ps) l q) ∧ RatLe (evE (ptOf ps) l q) 1000000 ∧ Below w.heap.size w w' := by
  obtain ⟨s, hs⟩ : ∃ s, s = ratNeg q := ⟨_, rfl⟩
  rw [← hs]
  have HS := Lib.hid hs
  clear hs
  go_enter Tryz.func23, Tryz.ntmps23
  go_upto_region 1 with fail
  have hx1 := heap_alloc_new w (.cells #[.slice A n c, .bool s, .slice b.A b.n b.c, .slice b.A2 b.n2 b.c2] 35)
  have zw1 : (w.alloc (.cells #[.slice A n c, .bool s, .slice b.A b.n b.c, .slice b.A2 b.n2 b.c2] 35)).heap.size = w.heap.size + 1 := by simp
  have aw1 := (Below.refl w.heap.size w).alloc (Nat.le_refl _) (.cells #[.slice A n c, .bool s, .slice b.A b.n b.c, .slice b.A2 b.n2 b.c2] 35)
  obtain ⟨w1, ew1⟩ : ∃ x, x = w.alloc (.cells #[.slice A n c, .bool s, .slice b.A b.n b.c, .slice b.A2 b.n2 b.c2] 35) := ⟨_, rfl⟩
  rw [← ew1] at hx1 zw1 aw1 ⊢
  clear ew1
  have hx2 := heap_alloc_new w1 (.cells #[.bool false, .slice none 0 0, .slice none 0 0] 33)
  have zw2 : (w1.alloc (.cells #[.bool false, .slice none 0 0, .slice none 0 0] 33)).heap.size = w1.heap.size + 1 := by simp
  have aw2 := (Below.refl w1.heap.size w1).alloc (Nat.le_refl _) (.cells #[.bool false, .slice none 0 0, .slice none 0 0] 33)
  obtain ⟨w2, ew2⟩ : ∃ x, x = w1.alloc (.cells #[.bool false, .slice none 0 0, .slice none 0 0] 33) := ⟨_, rfl⟩
  rw [← ew2] at hx2 zw2 aw2 ⊢
  clear ew2
  rw [zw1] at hx2
  have b2 := aw1.trans (aw2.mono aw1.size)
  have hv1 := box_keep hx1 aw2
  obtain ⟨x0, x1, x2, x3⟩ := box4 hv1
  have hz2 : w2.heap.size = w.heap.size + 1 + 1 := by rw [zw2, zw1]
  have HV1 := Lib.hid hv1
  have HX2 := Lib.hid hx2
  have HB2 := Lib.hid b2
  have HT2 := Lib.hid (h.below b2)
  have HR2 := Lib.hid (hr.below b2)
  have HP2 := Lib.hid (hp.below b2)
  have HQ := Lib.hid hq
  have HZ2 := Lib.hid hz2
  clear hx1 hx2 hv1 b2 aw1 aw2 zw1 zw2 hz2 h hr hp hq
  go_upto_region 2 with fail
  have hx3 := heap_alloc_new w2 (.cells #[.bool s, .slice b.A b.n b.c, .slice b.A2 b.n2 b.c2] 33)
  have zw3 : (w2.alloc (.cells #[.bool s, .slice b.A b.n b.c, .slice b.A2 b.n2 b.c2] 33)).heap.size = w2.heap.size + 1 := by simp
  have aw3 := (Below.refl w2.heap.size w2).alloc (Nat.le_refl _) (.cells #[.bool s, .slice b.A b.n b.c, .slice b.A2 b.n2 b.c2] 33)
  obtain ⟨w3, ew3⟩ : ∃ x, x = w2.alloc (.cells #[.bool s, .slice b.A b.n b.c, .slice b.A2 b.n2 b.c2] 33) := ⟨_, rfl⟩
  rw [← ew3] at hx3 zw3 aw3 ⊢
  clear ew3
  obtain ⟨gs, hgs⟩ : ∃ x, x = w2.heap.size := ⟨_, rfl⟩
  rw [← hgs] at hx3 ⊢
  have hv1 := box_keep HV1.out aw3
  obtain ⟨x0', _, _, _⟩ := box4 hv1
  have hb0 : Box3 w3 gs b q := by
    unfold Box3
    rw [← HS.out]
    exact hx3
  have HB0 := Lib.hid hb0
  have HX2' := Lib.hid (box_keep HX2.out aw3)
  have HB3 := Lib.hid (HB2.out.trans (aw3.mono HB2.out.size))
  have HT3 := Lib.hid (HT2.out.below aw3)
  have HR3 := Lib.hid (HR2.out.below aw3)
  have HP3 := Lib.hid (HP2.out.below aw3)
  have HG3 := Lib.hid (show w2.heap.size ≤ gs ∧ gs < w3.heap.size by omega)
  have HA3 := Lib.hid aw3
  clear hv1 hb0 hx3 aw3 zw3 hgs x0 x1 x2 x3 HV1 HX2 HR2
  go_wp2_with fail
  clear x0'
  go_loopw [13] (fun x wr => ∃ (i : Nat) (bs : RB) (sv : Rat), i ≤ n ∧ x = .int .i64 i ∧ Box3 wr gs bs sv ∧ RatAt wr bs sv ∧ RatLe sv (k + i * (k + kp + 1)) ∧ sv = q + evT (ptOf ps) ((tmsOf l).take i) ∧ Fr (fun kk => kk = gs) w3 wr) (fun x _ => n - (intOf x).toNat)
  case atStart => exact ⟨0, b, q, Nat.zero_le _, by first | rfl | go_num, HB0.out, HR3.out, by rw [Nat.zero_mul]; exact HQ.out, by simp [evT]; grind, Fr.refl _ _⟩
  case round =>
    obtain ⟨i, bs, sv, hin, rfl, hbx, hrs, hls, hsv, hf⟩ := hrel
    obtain ⟨w6, rfl⟩ : ∃ x, x = wr := ⟨_, rfl⟩
    have HBX := Lib.hid hbx
    have HRS := Lib.hid hrs
    have HLS := Lib.hid hls
    have HSV := Lib.hid hsv
    have HF := Lib.hid hf
    have hb26 : Below w2.heap.size w2 w6 := HA3.out.trans (hf.below (B := w2.heap.size) (Nat.le_of_lt (Nat.lt_of_le_of_lt HG3.out.1 HG3.out.2)) (fun kk hk => by rw [hk]; exact HG3.out.1))
    have HB26 := Lib.hid hb26
    clear hbx hrs hls hsv hf hb26
    by_cases hlt : i < n
    · have ht6 := HT2.out.below HB26.out
      have hp6 := HP2.out.below HB26.out
      obtain ⟨g3, o3, t, ea, hti, y0, y1, y2, y3⟩ := ht6.rd.at4 ht6.len hlt
      subst ea
      have HTI := Lib.hid hti
      have HOK := Lib.hid (ht6.each t (List.mem_of_getElem? hti))
      have HP6 := Lib.hid hp6
      have b0 : (0 : Int) ≤ (i : Int) := by omega
      clear hti ht6 hp6
      go_upto_region 5 with fail
      have hxt := heap_alloc_new w6 (.cells #[.int .i64 t.2.1, .bool (ratNeg t.2.2), .slice t.1.A t.1.n t.1.c, .slice t.1.A2 t.1.n2 t.1.c2] 70)
      have zw7 : (w6.alloc (.cells #[.int .i64 t.2.1, .bool (ratNeg t.2.2), .slice t.1.A t.1.n t.1.c, .slice t.1.A2 t.1.n2 t.1.c2] 70)).heap.size = w6.heap.size + 1 := by simp
      have aw7 := (Below.refl w6.heap.size w6).alloc (Nat.le_refl _) (.cells #[.int .i64 t.2.1, .bool (ratNeg t.2.2), .slice t.1.A t.1.n t.1.c, .slice t.1.A2 t.1.n2 t.1.c2] 70)
      obtain ⟨w7, ew7⟩ : ∃ x, x = w6.alloc (.cells #[.int .i64 t.2.1, .bool (ratNeg t.2.2), .slice t.1.A t.1.n t.1.c, .slice t.1.A2 t.1.n2 t.1.c2] 70) := ⟨_, rfl⟩
      rw [← ew7] at hxt zw7 aw7 ⊢
      clear ew7
      obtain ⟨gt, hgt⟩ : ∃ x, x = w6.heap.size := ⟨_, rfl⟩
      rw [← hgt] at hxt ⊢
      obtain ⟨p0, p1, p2, p3⟩ := box4 hxt
      have hbx7 := HBX.out.below aw7
      have HBX7 := Lib.hid hbx7
      have HXT := Lib.hid hxt
      have HA7 := Lib.hid aw7
      have HF7 := Lib.hid (HF.out.trans (Fr.of_below (S := fun kk => kk = gs) aw7) (fun b hb => .inl hb))
      have hgst : gs < gt := by rw [hgt]; exact lt_of_blk HBX.out
      clear hxt aw7 zw7 hgt hbx7 y0 y1 y2 y3
      by_cases hv : 0 ≤ t.2.1 ∧ t.2.1 < n2
      · obtain ⟨vi, hvi⟩ : ∃ vi : Nat, t.2.1 = (vi : Int) := ⟨t.2.1.toNat, by omega⟩
        have hvi2 : vi < n2 := by omega
        obtain ⟨g5, o5, pp, ea, hpi, r0, r1, r2⟩ := (HP6.out.below HA7.out).rd.at3 HP6.out.len hvi2
        subst ea
        have hpk := HP6.out.each pp (List.mem_of_getElem? hpi)
        have hcs : ∀ W', Below w7.heap.size w7 W' → (W'.cell? ⟨gs, 0, none⟩ = some (.bool (ratNeg sv)) ∧ W'.cell? ⟨gs, 1, none⟩ = some (.slice bs.A bs.n bs.c) ∧ W'.cell? ⟨gs, 2, none⟩ = some (.slice bs.A2 bs.n2 bs.c2)) ∧ (W'.cell? ⟨gt, 0, none⟩ = some (.int .i64 (vi : Int)) ∧ W'.cell? ⟨gt, 1, none⟩ = some (.bool (ratNeg t.2.2)) ∧ W'.cell? ⟨gt, 2, none⟩ = some (.slice t.1.A t.1.n t.1.c) ∧ W'.cell? ⟨gt, 3, none⟩ = some (.slice t.1.A2 t.1.n2 t.1.c2)) ∧ W'.cell? ⟨g5, o5 + vi * 3, none⟩ = some (.bool (ratNeg pp.2)) ∧ W'.cell? ⟨g5, o5 + vi * 3 + 1, none⟩ = some (.slice pp.1.A pp.1.n pp.1.c) ∧ W'.cell? ⟨g5, o5 + vi * 3 + 2, none⟩ = some (.slice pp.1.A2 pp.1.n2 pp.1.c2) := fun W' hb => by
          have e4 := box4 (box_keep HXT.out hb)
          rw [hvi] at e4
          exact ⟨boxk (HBX7.out.below hb), e4, (hb.cell (World.block_lt_of_cell? w7 _ r0)).trans r0, (hb.cell (World.block_lt_of_cell? w7 _ r1)).trans r1, (hb.cell (World.block_lt_of_cell? w7 _ r2)).trans r2⟩
        have hml := fun W (hb : Below w7.heap.size w7 W) => rmul_any t.1 pp.1 t.2.2 pp.2 W ((HOK.out.1.below HA7.out).below hb) ((hpk.1.below HA7.out).below hb) (k + kp) (by omega) (HOK.out.2.1.up (by omega)) (hpk.2.up (by omega))
        have hkk : k + i * (k + kp + 1) ≤ 1000000 := by
          have : i * (k + kp + 1) ≤ 30 * 30001 := Nat.mul_le_mul (by omega) (by omega)
          omega
        have had := fun W (hb : Below w7.heap.size w7 W) bm (hm : RatAt W bm (t.2.2 * pp.2)) => add_any bs bm sv (t.2.2 * pp.2) W ((HRS.out.below HA7.out).below hb) hm 1000000 (by decide) (HLS.out.up hkk) ((mul_le HOK.out.2.1 hpk.2).up (by omega))
        unfold RB.val at hml had
        have HCS := Lib.hid hcs
        have HML := Lib.hid hml
        have HAD := Lib.hid had
        have HPI := Lib.hid hpi
        have HPK := Lib.hid hpk
        have HVI := Lib.hid hvi
        rw [hvi] at p0
        have q1 : (0 : Int) ≤ (vi : Int) := by omega
        have q2 : (vi : Int) < (n2 : Int) := by omega
        clear hcs hml had hpi hpk hvi r0 r1 r2 hv hkk
        go_upto_region 6 with fail
        have hS := HCS.out w7.drew (below_drew2 (Below.refl _ _))
        refine wp_region_E 10 (fun W' => (W'.cell? ⟨gs, 0, none⟩ = some (.bool (ratNeg sv)) ∧ W'.cell? ⟨gs, 1, none⟩ = some (.slice bs.A bs.n bs.c) ∧ W'.cell? ⟨gs, 2, none⟩ = some (.slice bs.A2 bs.n2 bs.c2)) ∧ (W'.cell? ⟨gt, 0, none⟩ = some (.int .i64 (vi : Int)) ∧ W'.cell? ⟨gt, 1, none⟩ = some (.bool (ratNeg t.2.2)) ∧ W'.cell? ⟨gt, 2, none⟩ = some (.slice t.1.A t.1.n t.1.c) ∧ W'.cell? ⟨gt, 3, none⟩ = some (.slice t.1.A2 t.1.n2 t.1.c2)) ∧ W'.cell? ⟨g5, o5 + vi * 3, none⟩ = some (.bool (ratNeg pp.2)) ∧ W'.cell? ⟨g5, o5 + vi * 3 + 1, none⟩ = some (.slice pp.1.A pp.1.n pp.1.c) ∧ W'.cell? ⟨g5, o5 + vi * 3 + 2, none⟩ = some (.slice pp.1.A2 pp.1.n2 pp.1.c2)) (by kernel_rfl) ?_
        refine wpAnyE_take (i := 0) (v := ?_) (by kernel_rfl) rfl (by kernel_rfl) (by kernel_rfl) (by kernel_rfl) (fun _ _ _ h => h) (by rfl) ?hy0 hS ?rest0
        case hy0 => (intro w hSw; (try dsimp only at hSw); go_simp <;> with_reducible rfl)
        case rest0 =>
        simp only [Act.put, List.setIfInBounds_toArray, List.set_cons_zero, List.set_cons_succ]
        refine wpAnyE_take (i := 1) (v := ?_) (by kernel_rfl) rfl (by kernel_rfl) (by kernel_rfl) (by kernel_rfl) (fun _ _ _ h => h) (by rfl) ?hy1 hS ?rest1
        case hy1 => (intro w hSw; (try dsimp only at hSw); go_simp <;> with_reducible rfl)
        case rest1 =>
        simp only [Act.put, List.setIfInBounds_toArray, List.set_cons_zero, List.set_cons_succ]
        refine wpAnyE_take (i := 2) (v := ?_) (by kernel_rfl) rfl (by kernel_rfl) (by kernel_rfl) (by kernel_rfl) (fun _ _ _ h => h) (by rfl) ?hy2 hS ?rest2
        case hy2 => (intro w hSw; (try dsimp only at hSw); go_simp <;> with_reducible rfl)
        case rest2 =>
        simp only [Act.put, List.setIfInBounds_toArray, List.set_cons_zero, List.set_cons_succ]
        refine wpAnyE_take (i := 3) (v := ?_) (by kernel_rfl) rfl (by kernel_rfl) (by kernel_rfl) (by kernel_rfl) (fun _ _ _ h => h) (by rfl) ?hy3 hS ?rest3
        case hy3 => (intro w hSw; (try dsimp only at hSw); go_simp <;> with_reducible rfl)
        case rest3 =>
        simp only [Act.put, List.setIfInBounds_toArray, List.set_cons_zero, List.set_cons_succ]
        refine wpAnyE_take (i := 4) (v := ?_) (by kernel_rfl) rfl (by kernel_rfl) (by kernel_rfl) (by kernel_rfl) (fun _ _ _ h => h) (by rfl) ?hy4 hS ?rest4
        case hy4 => (intro w hSw; (try dsimp only at hSw); go_simp <;> with_reducible rfl)
        case rest4 =>
        simp only [Act.put, List.setIfInBounds_toArray, List.set_cons_zero, List.set_cons_succ]
        refine wpAnyE_take (i := 5) (v := ?_) (by kernel_rfl) rfl (by kernel_rfl) (by kernel_rfl) (by kernel_rfl) (fun _ _ _ h => h) (by rfl) ?hy5 hS ?rest5
        case hy5 => (intro w hSw; (try dsimp only at hSw); go_simp <;> with_reducible rfl)
        case rest5 =>
        simp only [Act.put, List.setIfInBounds_toArray, List.set_cons_zero, List.set_cons_succ]
        refine wpAnyE_take (i := 6) (v := ?_) (by kernel_rfl) rfl (by kernel_rfl) (by kernel_rfl) (by kernel_rfl) (fun _ _ _ h => h) (by rfl) ?hy6 hS ?rest6
        case hy6 => (intro w hSw; (try dsimp only at hSw); go_simp <;> with_reducible rfl)
        case rest6 =>
        simp only [Act.put, List.setIfInBounds_toArray, List.set_cons_zero, List.set_cons_succ]
        refine wpAnyE_take (i := 7) (v := ?_) (by kernel_rfl) rfl (by kernel_rfl) (by kernel_rfl) (by kernel_rfl) (fun _ _ _ h => h) (by rfl) ?hy7 hS ?rest7
        case hy7 => (intro w hSw; (try dsimp only at hSw); go_simp <;> with_reducible rfl)
        case rest7 =>
        simp only [Act.put, List.setIfInBounds_toArray, List.set_cons_zero, List.set_cons_succ]
        refine wpAnyE_one (i := 8) (by kernel_rfl) rfl (fun KK hKK => ?_)
        have HKK8 := Lib.hid hKK
        clear hKK
        go_simp
        go_at_call 34
        refine (HML.out _ (below_drew2 (Below.refl _ _))).mono ?_
        rintro e w8 ⟨b8, rfl, hr8, hb8⟩
        have c8 : Below w7.heap.size w7 w8 := (below_drew2 (Below.refl _ _)).trans (hb8.mono (Nat.le_refl _))
        have HR8 := Lib.hid hr8
        clear hr8 hb8 hS
        refine HKK8.out _ _ (.inr (HCS.out w8 c8)) ?_
        clear HKK8
        try simp only [Act.put, List.setIfInBounds_toArray, List.set_cons_zero, List.set_cons_succ]
        refine wpAnyE_one (i := 9) (by kernel_rfl) rfl (fun KK hKK => ?_)
        have HKK9 := Lib.hid hKK
        clear hKK
        go_simp
        go_at_call 28
        refine (HAD.out _ c8 _ HR8.out).mono ?_
        rintro e w9 ⟨b9, rfl, hr9, hb9⟩
        have c9 : Below w7.heap.size w7 w9 := c8.trans (hb9.mono c8.size)
        have HR9 := Lib.hid hr9
        clear hr9 hb9
        refine HKK9.out _ _ (.inr (HCS.out w9 c9)) ?_
        clear HKK9
        try simp only [Act.put, List.setIfInBounds_toArray, List.set_cons_zero, List.set_cons_succ]
        refine wpAnyE_one (i := 10) (by kernel_rfl) rfl (fun KK hKK => ?_)
        have HKK10 := Lib.hid hKK
        clear hKK
        have hbx9 := HBX7.out.below c9
        obtain ⟨m0, m1, m2⟩ := boxk hbx9
        have z0 := frozen_of_blk hbx9 0
        have z1 := frozen_of_blk hbx9 1
        have z2 := frozen_of_blk hbx9 2
        have HBX9 := Lib.hid hbx9
        clear hbx9
        go_simp
        refine HKK10.out _ _ (.inl rfl) ?_
        clear HKK10
        refine wpAnyE_done (by kernel_rfl) ?_ _
        go_wp2_with fail
        go_roundw
        case rel =>
          have hpt : ptOf ps t.2.1 = pp.2 := by rw [HVI.out]; exact ptOf_in HPI.out
          refine ⟨i + 1, b9, sv + t.2.2 * pp.2, by omega, by go_num, store3_box HBX9.out.blk b9 _, store3_rat HBX9.out.blk HR9.out _ _, ?_, ?_, (HF7.out.trans (Fr.of_below (S := fun kk => kk = gs) c9) (fun b hb => .inl hb)).trans (store3_fr w9 gs (ratNeg (sv + t.2.2 * pp.2)) b9) (fun b hb => .inl hb)⟩
          · refine (add_le HLS.out (mul_le HOK.out.2.1 HPK.out.2)).up ?_
            rw [Nat.succ_mul]
            omega
          · rw [evT_next _ HTI.out, hpt, HSV.out]
            grind
        case measure => simp [intOf]; omega
      · have hpt : ptOf ps t.2.1 = 0 := ptOf_out (by rw [HP6.out.len]; exact hv)
        have HPT := Lib.hid hpt
        clear hpt
        by_cases hv0 : 0 ≤ t.2.1
        · have hv1 : ¬ (t.2.1 < (n2 : Int)) := fun h => hv ⟨hv0, h⟩
          clear hv
          go_wp2_with fail
          go_roundw
          case rel =>
            refine ⟨i + 1, bs, sv, by omega, by go_num, HBX7.out, HRS.out.below HA7.out, HLS.out.up ?_, ?_, HF7.out⟩
            · rw [Nat.succ_mul]
              omega
            · rw [evT_next _ HTI.out, HPT.out, HSV.out]
              grind
          case measure => simp [intOf]; omega
        · clear hv
          go_wp2_with fail
          go_roundw
          case rel =>
            refine ⟨i + 1, bs, sv, by omega, by go_num, HBX7.out, HRS.out.below HA7.out, HLS.out.up ?_, ?_, HF7.out⟩
            · rw [Nat.succ_mul]
              omega
            · rw [evT_next _ HTI.out, HPT.out, HSV.out]
              grind
          case measure => simp [intOf]; omega
    · obtain rfl : i = n := by omega
      have hlt2 : ¬ (i < i) := by omega
      have hx2 := (HF.out.block (w.heap.size + 1) (Nat.lt_of_lt_of_le (by have := HZ2.out; omega) HA3.out.size) (by have := HZ2.out; have := HG3.out; omega)).trans HX2'.out
      obtain ⟨r0, r1, r2⟩ := boxk HBX.out
      obtain ⟨m0, m1, m2⟩ := boxk hx2
      have z0 := frozen_of_blk hx2 0
      have z1 := frozen_of_blk hx2 1
      have z2 := frozen_of_blk hx2 2
      have HXR := Lib.hid hx2
      clear hx2
      go_wp2_with fail
      refine bodyPost_ret (v := .agg #[.bool (ratNeg sv), .slice bs.A bs.n bs.c, .slice bs.A2 bs.n2 bs.c2]) (by simp [results, Tryz.results23, go_sem, m0, m1, m2]) rfl ?_
      have hsv : evE (ptOf ps) l q = sv := by
        rw [HSV.out, List.take_of_length_le (by rw [tmsOf_len, HT3.out.len]; exact Nat.le_refl _)]
        rfl
      rw [hsv]
      have hkk : k + i * (k + kp + 1) ≤ 1000000 := by
        have : i * (k + kp + 1) ≤ 30 * 30001 := Nat.mul_le_mul (by omega) (by omega)
        omega
      have hblk : Blk3 w6 (w.heap.size + 1) := ⟨_, _, _, _, _, _, _, HXR.out⟩
      exact ⟨bs, rfl, store3_rat hblk HRS.out (ratNeg sv) bs, HLS.out.up hkk, store3_bel (HB2.out.trans (HB26.out.mono HB2.out.size)) (Nat.le_succ _) _ _⟩
end Go.Proofs.YtlbbbafehhdpnaaGreatDoor
