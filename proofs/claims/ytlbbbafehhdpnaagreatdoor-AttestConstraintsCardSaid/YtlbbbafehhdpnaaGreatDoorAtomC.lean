/- Contract of atom.Canon. -/
import Derived.Test.YtlbbbafehhdpnaaGreatDoorAtomA
namespace Go.Proofs.YtlbbbafehhdpnaaGreatDoor
open Go.RowKit
set_option linter.unusedVariables false
set_option linter.unusedSimpArgs false

def absR (q : Rat) : Rat := if ratNeg q then -q else q
theorem absR_neg (q : Rat) : ratNeg (absR q) = false := by
  unfold absR
  have h := sign_neg q
  split
  · rename_i hn
    rw [sign_neg]
    rw [hn] at h
    have := of_decide_eq_true h.symm
    exact decide_eq_false (by grind)
  · rename_i hn
    simpa using hn
theorem absR_at {w : World} {b : RB} {q : Rat} (h : RatAt w b q) : RatAt w b (absR q) := by
  unfold absR
  split
  · exact ratAt_neg h
  · exact h
theorem absR_le {q : Rat} {k : Nat} (h : RatLe q k) : RatLe (absR q) k := by
  unfold absR
  split
  · exact neg_le h
  · exact h
theorem absR_pos {q : Rat} (h : q ≠ 0) : 0 < absR q := by
  unfold absR
  have hs := sign_neg q
  split
  · rename_i hn
    rw [hn] at hs
    have := of_decide_eq_true hs.symm
    grind
  · rename_i hn
    have hn' : ratNeg q = false := by simpa using hn
    rw [hn'] at hs
    have := of_decide_eq_false hs.symm
    grind
theorem inv_pos_ {q : Rat} (h : 0 < q) : 0 < q⁻¹ := Rat.inv_pos.2 h
theorem inv_nz {q : Rat} (h : q ≠ 0) : q⁻¹ ≠ 0 := by
  intro e
  have := Rat.mul_inv_cancel q h
  rw [e] at this
  grind
def store5 (w : World) (g : Nat) (A : Option Addr) (n c : Nat) (s : Bool) (b : RB) (o : Int) : World := (store4 w g A n c s b).setCell ⟨g, 4, none⟩ (.int .i64 o)
theorem store5_fr (w : World) (g : Nat) (A : Option Addr) (n c : Nat) (s : Bool) (b : RB) (o : Int) : Fr (fun k => k = g) w (store5 w g A n c s b o) := fr_set (store4_fr w g A n c s b) (.inl rfl)
theorem store5_bel {w0 w : World} {g B : Nat} (h : Below B w0 w) (hg : B ≤ g) (A : Option Addr) (n c : Nat) (s : Bool) (b : RB) (o : Int) : Below B w0 (store5 w g A n c s b o) := bl_set (store4_bel h hg _ _ _ _ _) hg
/-- what Canon answers: an open constraint that says the same, or what it says everywhere. -/
def CanA (w : World) (n : Nat) (op : Int) (f : (Int → Rat) → Rat) (K : Nat) (r : Ending) (w' : World) : Prop :=
  ∃ (A' : Option Addr) (n' c' : Nat) (b' : RB) (l' : List TB) (q' : Rat) (o t : Int), r = .returned (.tuple #[.agg #[.slice A' n' c', .bool (ratNeg q'), .slice b'.A b'.n b'.c, .slice b'.A2 b'.n2 b'.c2, .int .i64 o], .int .i64 t, .int .i64 0]) ∧ Below w.heap.size w w' ∧
    ((t = 0 ∧ o = op ∧ TmsAt w' A' n' c' l' K ∧ RatAt w' b' q' ∧ RatLe q' K ∧ n' ≤ n ∧ ∀ p, saysQ op (evE p l' q') = saysQ op (f p)) ∨ ((t = 1 ∨ t = 2) ∧ ∀ p, saysQ op (f p) = decide (t = 1)))
theorem can_val {l l' ls : List TB} (hp : ls.Perm l) (hg : tmsOf l' = grp (tmsOf ls)) (p : Int → Rat) (q : Rat) : evE p l' q = evE p l q := by
  unfold evE
  have h : (tmsOf ls).Perm (tmsOf l) := hp.map _
  rw [hg, evT_grp, evT_perm p h]
set_option maxRecDepth 100000 in
set_option maxHeartbeats 4000000 in
theorem acanon_any (A : Option Addr) (n c : Nat) (b : RB) (l : List TB) (q : Rat) (op : Int) (k : Nat) (w : World) (h : TmsAt w A n c l k) (hr : RatAt w b q) (hq : RatLe q k) (hn : n ≤ 30) (hk : k ≤ 400) (h1 : 1 ≤ op) (h3 : op ≤ 3) :
    Calls Tryz.prog 13 #[.agg #[.slice A n c, .bool (ratNeg q), .slice b.A b.n b.c, .slice b.A2 b.n2 b.c2, .int .i64 op]] w fun r w' => CanA w n op (fun p => evE p l q) (31 * (31 * (k + 1) + 31 * (k + 1) + 1)) r w' := by
  obtain ⟨s, hs⟩ : ∃ s, s = ratNeg q := ⟨_, rfl⟩
  have hcn : ∀ W, Below w.heap.size w W → Calls Tryz.prog 24 #[.agg #[.slice A n c, .bool s, .slice b.A b.n b.c, .slice b.A2 b.n2 b.c2]] W fun r w' => CanP W.heap.size W n l b q k r w' := fun W hb => by
    rw [hs]
    exact canon_any A n c b l q k W (h.below hb) hn (by omega)
  have hck := fun W => check_any A n c b s op W h1 h3
  have hsy := fun W (hb : Below w.heap.size w W) => says_any op b q W (hr.below hb) h1 h3
  rw [← hs] at hsy ⊢
  have HS := Lib.hid hs
  have HCN := Lib.hid hcn
  have HCK := Lib.hid hck
  have HSY := Lib.hid hsy
  have HR := Lib.hid hr
  have HQ := Lib.hid hq
  clear hs hcn hck hsy h hr hq
  go_enter Tryz.func13, Tryz.ntmps13
  go_upto_region 1 with fail
  have hx1 := heap_alloc_new w (.cells #[.slice A n c, .bool s, .slice b.A b.n b.c, .slice b.A2 b.n2 b.c2, .int .i64 op] 41)
  have zw1 : (w.alloc (.cells #[.slice A n c, .bool s, .slice b.A b.n b.c, .slice b.A2 b.n2 b.c2, .int .i64 op] 41)).heap.size = w.heap.size + 1 := by simp
  have aw1 := (Below.refl w.heap.size w).alloc (Nat.le_refl _) (.cells #[.slice A n c, .bool s, .slice b.A b.n b.c, .slice b.A2 b.n2 b.c2, .int .i64 op] 41)
  obtain ⟨w1, ew1⟩ : ∃ x, x = w.alloc (.cells #[.slice A n c, .bool s, .slice b.A b.n b.c, .slice b.A2 b.n2 b.c2, .int .i64 op] 41) := ⟨_, rfl⟩
  rw [← ew1] at hx1 zw1 aw1 ⊢
  clear ew1
  have hx2 := heap_alloc_new w1 (.cells #[.slice none 0 0, .bool false, .slice none 0 0, .slice none 0 0, .int .i64 0] 41)
  have zw2 : (w1.alloc (.cells #[.slice none 0 0, .bool false, .slice none 0 0, .slice none 0 0, .int .i64 0] 41)).heap.size = w1.heap.size + 1 := by simp
  have aw2 := (Below.refl w1.heap.size w1).alloc (Nat.le_refl _) (.cells #[.slice none 0 0, .bool false, .slice none 0 0, .slice none 0 0, .int .i64 0] 41)
  obtain ⟨w2, ew2⟩ : ∃ x, x = w1.alloc (.cells #[.slice none 0 0, .bool false, .slice none 0 0, .slice none 0 0, .int .i64 0] 41) := ⟨_, rfl⟩
  rw [← ew2] at hx2 zw2 aw2 ⊢
  clear ew2
  rw [zw1] at hx2
  have b2 := aw1.trans (aw2.mono aw1.size)
  have hv1 := box_keep hx1 aw2
  obtain ⟨x0, x1, x2, x3, x4⟩ := box5 hv1
  have hz2 : w2.heap.size = w.heap.size + 1 + 1 := by rw [zw2, zw1]
  have HX1 := Lib.hid hv1
  have HX2 := Lib.hid hx2
  have HB2 := Lib.hid b2
  have HZ2 := Lib.hid hz2
  clear hx1 hx2 hv1 b2 aw1 aw2 zw1 zw2 hz2
  have hcall := HCK.out w2
  go_upto_region 4 with (go_at_call 21; refine hcall.mono ?_; clear hcall; rintro e w3 ⟨rfl, hb3⟩)
  have hx1 := box_keep HX1.out hb3
  have hx2 := box_keep HX2.out hb3
  have b3 := HB2.out.trans (hb3.mono HB2.out.size)
  obtain ⟨x0', x1', x2', x3', x4'⟩ := box5 hx1
  have hz3 := hb3.size
  have hcall := HCN.out w3 b3
  have HX1' := Lib.hid hx1
  have HX2' := Lib.hid hx2
  have HB3 := Lib.hid b3
  have HZ3 := Lib.hid hz3
  clear hx1 hx2 b3 hb3 hz3 x0 x1 x2 x3 x4 HX1 HX2
  go_upto_region 5 with (go_at_call 24; refine hcall.mono ?_; clear hcall; rintro e w4 ⟨A4, n4, c4, l4, ls4, rfl, hp4, hg4, ht4, hn4, hb4⟩)
  rw [← HS.out]
  have HP4 := Lib.hid hp4
  have HG4 := Lib.hid hg4
  have HN4 := Lib.hid hn4
  have hx5 := heap_alloc_new w4 (.cells #[.slice A4 n4 c4, .bool s, .slice b.A b.n b.c, .slice b.A2 b.n2 b.c2] 35)
  have zw5 : (w4.alloc (.cells #[.slice A4 n4 c4, .bool s, .slice b.A b.n b.c, .slice b.A2 b.n2 b.c2] 35)).heap.size = w4.heap.size + 1 := by simp
  have aw5 := (Below.refl w4.heap.size w4).alloc (Nat.le_refl _) (.cells #[.slice A4 n4 c4, .bool s, .slice b.A b.n b.c, .slice b.A2 b.n2 b.c2] 35)
  obtain ⟨w5, ew5⟩ : ∃ x, x = w4.alloc (.cells #[.slice A4 n4 c4, .bool s, .slice b.A b.n b.c, .slice b.A2 b.n2 b.c2] 35) := ⟨_, rfl⟩
  rw [← ew5] at hx5 zw5 aw5 ⊢
  clear ew5
  obtain ⟨ge, hge⟩ : ∃ x, x = w4.heap.size := ⟨_, rfl⟩
  rw [← hge] at hx5 ⊢
  have b5 := hb4.trans (aw5.mono hb4.size)
  have hge3 : w3.heap.size ≤ ge := by rw [hge]; exact hb4.size
  have hge5 : ge < w5.heap.size := lt_of_blk hx5
  have hx1 := box_keep HX1'.out b5
  have hx2 := box_keep HX2'.out b5
  obtain ⟨x0, x1, x2, x3, x4⟩ := box5 hx1
  obtain ⟨y0, y1, y2, y3⟩ := box4 hx5
  have ht5 := ht4.below aw5
  have HX5 := Lib.hid hx5
  have HX1 := Lib.hid hx1
  have HX2 := Lib.hid hx2
  have HB5 := Lib.hid (HB3.out.trans (b5.mono HB3.out.size))
  have HGE := Lib.hid (And.intro hge3 hge5)
  have HT5 := Lib.hid ht5
  have hcap := ht5.len
  clear hp4 hg4 hn4 ht4 hb4 aw5 zw5 hx5 hx1 hx2 b5 hge hge3 hge5 ht5 x0' x1' x2' x3' x4' HX1' HX2' HB3
  by_cases hz : n4 = 0
  · subst hz
    have hcall := HSY.out w5 HB5.out
    by_cases hsay : saysQ op q = true
    · rw [hsay] at hcall
      have z0 := frozen_of_blk HX2.out 0
      have z1 := frozen_of_blk HX2.out 1
      have z2 := frozen_of_blk HX2.out 2
      have z3 := frozen_of_blk HX2.out 3
      have z4 := frozen_of_blk HX2.out 4
      go_wp2_with (go_at_call 22; refine hcall.mono ?_; clear hcall; rintro e w6 ⟨rfl, hb6⟩; have hx6 := box_keep HX2.out hb6; obtain ⟨p0, p1, p2, p3, p4⟩ := box5 hx6; have z0 := frozen_of_blk hx6 0; have z1 := frozen_of_blk hx6 1; have z2 := frozen_of_blk hx6 2; have z3 := frozen_of_blk hx6 3; have z4 := frozen_of_blk hx6 4; have HX6 := Lib.hid hx6; have HB6 := Lib.hid hb6; clear hx6 hb6)
      refine bodyPost_ret (v := .tuple #[.agg #[.slice none 0 0, .bool false, .slice none 0 0, .slice none 0 0, .int .i64 0], .int .i64 1, .int .i64 0]) (by simp [results, Tryz.results13, go_sem, p0, p1, p2, p3, p4]) rfl ?_
      refine ⟨none, 0, 0, ⟨none, 0, 0, none, 0, 0⟩, [], 0, 0, 1, by rw [zero_neg], ?_, .inr ⟨by decide, fun p => ?_⟩⟩
      · exact store5_bel (HB5.out.trans (HB6.out.mono HB5.out.size)) (by omega) none 0 0 false ⟨none, 0, 0, none, 0, 0⟩ 0
      · have e := can_val HP4.out HG4.out p q
        have hl : l4 = [] := List.eq_nil_of_length_eq_zero HT5.out.len
        have e2 : evE p l4 q = q := by
          rw [hl]
          unfold evE
          simp only [tmsOf, List.map_nil, evT]
          grind
        show saysQ op (evE p l q) = _
        rw [← e, e2, hsay]
        rfl
    · have hsay : saysQ op q = false := by simpa using hsay
      rw [hsay] at hcall
      have z0 := frozen_of_blk HX2.out 0
      have z1 := frozen_of_blk HX2.out 1
      have z2 := frozen_of_blk HX2.out 2
      have z3 := frozen_of_blk HX2.out 3
      have z4 := frozen_of_blk HX2.out 4
      go_wp2_with (go_at_call 22; refine hcall.mono ?_; clear hcall; rintro e w6 ⟨rfl, hb6⟩; have hx6 := box_keep HX2.out hb6; obtain ⟨p0, p1, p2, p3, p4⟩ := box5 hx6; have z0 := frozen_of_blk hx6 0; have z1 := frozen_of_blk hx6 1; have z2 := frozen_of_blk hx6 2; have z3 := frozen_of_blk hx6 3; have z4 := frozen_of_blk hx6 4; have HX6 := Lib.hid hx6; have HB6 := Lib.hid hb6; clear hx6 hb6)
      refine bodyPost_ret (v := .tuple #[.agg #[.slice none 0 0, .bool false, .slice none 0 0, .slice none 0 0, .int .i64 0], .int .i64 2, .int .i64 0]) (by simp [results, Tryz.results13, go_sem, p0, p1, p2, p3, p4]) rfl ?_
      refine ⟨none, 0, 0, ⟨none, 0, 0, none, 0, 0⟩, [], 0, 0, 2, by rw [zero_neg], ?_, .inr ⟨by decide, fun p => ?_⟩⟩
      · exact store5_bel (HB5.out.trans (HB6.out.mono HB5.out.size)) (by omega) none 0 0 false ⟨none, 0, 0, none, 0, 0⟩ 0
      · have e := can_val HP4.out HG4.out p q
        have hl : l4 = [] := List.eq_nil_of_length_eq_zero HT5.out.len
        have e2 : evE p l4 q = q := by
          rw [hl]
          unfold evE
          simp only [tmsOf, List.map_nil, evT]
          grind
        show saysQ op (evE p l q) = _
        rw [← e, e2, hsay]
        rfl
  · have hn0 : ¬ ((n4 : Int) = 0) := by omega
    obtain ⟨g3, of3, t, ea, hti, y0, y1, y2, y3⟩ := HT5.out.rd.at4 HT5.out.len (i := 0) (by omega)
    subst ea
    have hlen : 0 < n4 := by omega
    go_upto_region 10 with fail
    have hx6 := heap_alloc_new w5 (.cells #[.bool (ratNeg t.2.2), .slice t.1.A t.1.n t.1.c, .slice t.1.A2 t.1.n2 t.1.c2] 33)
    have zw6 : (w5.alloc (.cells #[.bool (ratNeg t.2.2), .slice t.1.A t.1.n t.1.c, .slice t.1.A2 t.1.n2 t.1.c2] 33)).heap.size = w5.heap.size + 1 := by simp
    have aw6 := (Below.refl w5.heap.size w5).alloc (Nat.le_refl _) (.cells #[.bool (ratNeg t.2.2), .slice t.1.A t.1.n t.1.c, .slice t.1.A2 t.1.n2 t.1.c2] 33)
    obtain ⟨w6, ew6⟩ : ∃ x, x = w5.alloc (.cells #[.bool (ratNeg t.2.2), .slice t.1.A t.1.n t.1.c, .slice t.1.A2 t.1.n2 t.1.c2] 33) := ⟨_, rfl⟩
    rw [← ew6] at hx6 zw6 aw6 ⊢
    clear ew6
    obtain ⟨gk, hgk⟩ : ∃ x, x = w5.heap.size := ⟨_, rfl⟩
    rw [← hgk] at hx6 ⊢
    obtain ⟨Kc, hKc⟩ : ∃ x, x = 31 * (k + 1) := ⟨_, rfl⟩
    have hok := HT5.out.each t (List.mem_of_getElem? hti)
    have hnz : t.2.2 ≠ 0 := by
      have : t.2 ∈ tmsOf l4 := List.mem_map_of_mem (List.mem_of_getElem? hti)
      rw [HG4.out] at this
      exact grp_nz _ _ this
    have hx1 := box_keep HX1.out aw6
    have hx2 := box_keep HX2.out aw6
    have hx5 := box_keep HX5.out aw6
    have hT6 := HT5.out.below aw6
    have hR6 := (HR.out.below HB5.out).below aw6
    have hN6 := hok.1.below aw6
    have hL6 := hok.2.1
    have hs6 := HZ2.out
    have hs7 := HZ3.out
    have hs8 := HB5.out.size
    have hB6 := HB5.out.trans (aw6.mono HB5.out.size)
    have HNZ := Lib.hid hnz
    have HQK := Lib.hid (show RatLe q Kc from HQ.out.up (by omega))
    rw [← hKc] at hT6 hL6
    have HKC := Lib.hid (show 31 * (Kc + Kc + 1) = 31 * (31 * (k + 1) + 31 * (k + 1) + 1) ∧ Kc ≤ 13000 by omega)
    obtain ⟨x0, x1, x2, x3, x4⟩ := box5 hx1
    clear hti hok hnz hKc y0 y1 y2 y3 HT5 HX1 HX2 HX5 HB5
    have hge := HGE.out
    have HZ7 := Lib.hid (show w.heap.size + 1 + 1 ≤ ge ∧ ge < w6.heap.size ∧ ge < gk ∧ gk < w6.heap.size from ⟨by omega, lt_of_blk hx5, by omega, lt_of_blk hx6⟩)
    clear hs6 hs7 hs8 hge hgk HGE HZ2 HZ3 zw6 aw6
    have hkc := HKC.out.2
    by_cases o3 : op = 3
    · subst o3
      have HSG := Lib.hid (show ∀ r, saysQ 3 (t.2.2⁻¹ * r) = saysQ 3 r from fun r => says_mul (.inr ⟨rfl, inv_nz HNZ.out⟩))
      have hiv := inv_any t.1 t.2.2 w6 hN6 Kc (by omega) hL6 HNZ.out
      unfold RB.val at hiv
      obtain ⟨k0, k1, k2⟩ := boxk hx6
      have HIV := Lib.hid hiv
      have HLE := Lib.hid hL6
      have HNE := Lib.hid HNZ.out
      have HB7 := Lib.hid hB6
      have HX1' := Lib.hid hx1
      have HX2' := Lib.hid hx2
      have HX5' := Lib.hid hx5
      have HT7 := Lib.hid hT6
      have HR7 := Lib.hid hR6
      clear hiv hL6 hB6 hx1 hx2 hx5 hx6 hT6 hR6 hN6 hkc
      have hcall := HIV.out
      go_upto_region 13 with (go_at_call 26; refine hcall.mono ?_; clear hcall; rintro e w8 ⟨b8, rfl, hr8, hb8⟩)
      have hx9 := heap_alloc_new w8 (.cells #[.bool (ratNeg (t.2.2)⁻¹), .slice b8.A b8.n b8.c, .slice b8.A2 b8.n2 b8.c2] 33)
      have zw9 : (w8.alloc (.cells #[.bool (ratNeg (t.2.2)⁻¹), .slice b8.A b8.n b8.c, .slice b8.A2 b8.n2 b8.c2] 33)).heap.size = w8.heap.size + 1 := by simp
      have aw9 := (Below.refl w8.heap.size w8).alloc (Nat.le_refl _) (.cells #[.bool (ratNeg (t.2.2)⁻¹), .slice b8.A b8.n b8.c, .slice b8.A2 b8.n2 b8.c2] 33)
      obtain ⟨w9, ew9⟩ : ∃ x, x = w8.alloc (.cells #[.bool (ratNeg (t.2.2)⁻¹), .slice b8.A b8.n b8.c, .slice b8.A2 b8.n2 b8.c2] 33) := ⟨_, rfl⟩
      rw [← ew9] at hx9 zw9 aw9 ⊢
      clear ew9
      obtain ⟨g8, hg8⟩ : ∃ x, x = w8.heap.size := ⟨_, rfl⟩
      rw [← hg8] at hx9 ⊢
      have b9 := hb8.trans (aw9.mono hb8.size)
      have hB9 := HB7.out.trans (b9.mono HB7.out.size)
      have hv1 := box_keep HX1'.out b9
      have hv2 := box_keep HX2'.out b9
      have hv5 := box_keep HX5'.out b9
      have hT9 := HT7.out.below b9
      have hR9 := HR7.out.below b9
      have hr9 := hr8.below aw9
      have hs2 := HB7.out.size
      have hs3 := HZ7.out
      have hs4 := hb8.size
      have hcs : ∀ W', Fr (fun kk => kk = w.heap.size + 1) w9 W' → (W'.cell? ⟨g8, 0, none⟩ = some (.bool (ratNeg (t.2.2)⁻¹)) ∧ W'.cell? ⟨g8, 1, none⟩ = some (.slice b8.A b8.n b8.c) ∧ W'.cell? ⟨g8, 2, none⟩ = some (.slice b8.A2 b8.n2 b8.c2)) ∧ (W'.cell? ⟨ge, 0, none⟩ = some (.slice (some ⟨g3, of3, none⟩) n4 c4) ∧ W'.cell? ⟨ge, 1, none⟩ = some (.bool s) ∧ W'.cell? ⟨ge, 2, none⟩ = some (.slice b.A b.n b.c) ∧ W'.cell? ⟨ge, 3, none⟩ = some (.slice b.A2 b.n2 b.c2)) ∧ W'.cell? ⟨w.heap.size, 4, none⟩ = some (.int .i64 3) := fun W' hb => ⟨boxk ((hb.block _ (lt_of_blk hx9) (by omega)).trans hx9), box4 ((hb.block _ (lt_of_blk hv5) (by omega)).trans hv5), (box5 ((hb.block _ (lt_of_blk hv1) (by omega)).trans hv1)).2.2.2.2⟩
      have hsc : ∀ W, Below w9.heap.size w9 W → Calls Tryz.prog 19 #[.agg #[.bool (ratNeg (t.2.2)⁻¹), .slice b8.A b8.n b8.c, .slice b8.A2 b8.n2 b8.c2], .agg #[.slice (some ⟨g3, of3, none⟩) n4 c4, .bool s, .slice b.A b.n b.c, .slice b.A2 b.n2 b.c2]] W fun e w' => ExS W n4 (fun p => (t.2.2)⁻¹ * evE p l4 q) (31 * (Kc + Kc + 1)) e w' := fun W hb => by
        rw [HS.out]
        exact scaleS b8 (t.2.2)⁻¹ _ n4 c4 b l4 q Kc Kc W (hr9.below hb) (inv_le HLE.out HNE.out) (hT9.below hb) (hR9.below hb) HQK.out (by have := HN4.out; omega) (by have := HKC.out; omega)
      have HCS := Lib.hid hcs
      have HSC := Lib.hid hsc
      have HB9 := Lib.hid hB9
      have HX9 := Lib.hid hv2
      clear hcs hsc hB9 hv1 hv2 hv5 hT9 hR9 hr9 hs2 hs3 hs4 hx9 aw9 zw9 b9 hb8 hr8 hg8 x0 x1 x2 x3 x4
      go_region_held3 (fun W' => (W'.cell? ⟨g8, 0, none⟩ = some (.bool (ratNeg (t.2.2)⁻¹)) ∧ W'.cell? ⟨g8, 1, none⟩ = some (.slice b8.A b8.n b8.c) ∧ W'.cell? ⟨g8, 2, none⟩ = some (.slice b8.A2 b8.n2 b8.c2)) ∧ (W'.cell? ⟨ge, 0, none⟩ = some (.slice (some ⟨g3, of3, none⟩) n4 c4) ∧ W'.cell? ⟨ge, 1, none⟩ = some (.bool s) ∧ W'.cell? ⟨ge, 2, none⟩ = some (.slice b.A b.n b.c) ∧ W'.cell? ⟨ge, 3, none⟩ = some (.slice b.A2 b.n2 b.c2)) ∧ W'.cell? ⟨w.heap.size, 4, none⟩ = some (.int .i64 3)) ((refine HCS.out _ ?_; repeat' (first | with_reducible exact Fr.of_below k1 | with_reducible exact (Fr.refl _ _).drew | with_reducible refine fr_set ?_ ?_ | exact .inl rfl))) (first | (go_at_call 19; refine (HSC.out _ (below_drew2 (Below.refl _ _))).mono ?_; rintro e u1 ⟨A6, n6, c6, b6, l6, q6, rfl, ht6, hr6, hq6, hn6, he6, hb6⟩; have k1 : Below w9.heap.size w9 u1 := (below_drew2 (Below.refl _ _)).trans (hb6.mono (Nat.le_refl _)); have HXU := Lib.hid (box_keep HX9.out k1); obtain ⟨p0, p1, p2, p3, p4⟩ := box5 HXU.out; have z0 := frozen_of_blk HXU.out 0; have z1 := frozen_of_blk HXU.out 1; have z2 := frozen_of_blk HXU.out 2; have z3 := frozen_of_blk HXU.out 3; have z4 := frozen_of_blk HXU.out 4; have H6 := Lib.hid (And.intro ht6 (And.intro hr6 (And.intro hq6 (And.intro hn6 he6)))); clear hb6 ht6 hr6 hq6 hn6 he6))
      all_goals
        go_wp2_with fail
        refine bodyPost_ret (v := .tuple #[.agg #[.slice A6 n6 c6, .bool (ratNeg q6), .slice b6.A b6.n b6.c, .slice b6.A2 b6.n2 b6.c2, .int .i64 3], .int .i64 0, .int .i64 0]) (by simp [results, Tryz.results13, go_sem, p0, p1, p2, p3, p4]) rfl ?_
        have hbel := HB9.out.trans (k1.mono HB9.out.size)
        have hfr := store5_fr u1 (w.heap.size + 1) A6 n6 c6 (ratNeg q6) b6 3
        have hty := typ_of HXU.out (by decide)
        obtain ⟨ht6, hr6, hq6, hn6, he6⟩ := H6.out
        have hn4 := HN4.out
        refine ⟨A6, n6, c6, b6, l6, q6, 3, 0, rfl, store5_bel hbel (by omega) _ _ _ _ _ _, .inl ⟨rfl, rfl, by rw [← HKC.out.1]; exact ht6.fr hfr hty, hr6.frB hfr hty, by rw [← HKC.out.1]; exact hq6, by omega, fun p => ?_⟩⟩
        rw [he6 p, HSG.out, can_val HP4.out HG4.out p q]
    · have hab := abs_any (ratNeg t.2.2) t.1 w6
      unfold RB.val at hab
      obtain ⟨k0, k1, k2⟩ := boxk hx6
      go_upto_region 12 with (go_at_call 25; refine hab.mono ?_; clear hab; rintro e w7 ⟨rfl, hb7⟩; have hx7 := box_keep hx6 hb7; obtain ⟨kk0, kk1, kk2⟩ := boxk hx7; have z0 := frozen_of_blk hx7 0; have z1 := frozen_of_blk hx7 1; have z2 := frozen_of_blk hx7 2)
      have hBk : Blk3 w7 gk := ⟨_, _, _, _, _, _, _, hx7⟩
      have hbx := store3_box hBk t.1 (absR t.2.2)
      unfold Box3 at hbx
      rw [absR_neg] at hbx
      have hty := typ_of hx7 (by decide)
      have hz := HZ7.out
      have hx1' := (store3_far (show w.heap.size ≠ gk by omega) false t.1).trans (box_keep hx1 hb7)
      have hx2' := (store3_far (show w.heap.size + 1 ≠ gk by omega) false t.1).trans (box_keep hx2 hb7)
      have hx5' := (store3_far (show ge ≠ gk by omega) false t.1).trans (box_keep hx5 hb7)
      have hT7 := (hT6.below hb7).fr (store3_fr w7 gk false t.1) hty
      have hR7 := (hR6.below hb7).frB (store3_fr w7 gk false t.1) hty
      have hN7 := absR_at ((hN6.below hb7).frB (store3_fr w7 gk false t.1) hty)
      have hB7 := store3_bel (hB6.trans (hb7.mono hB6.size)) (show w.heap.size ≤ gk by omega) false t.1
      have hzz : (store3 w7 gk false t.1).heap.size = w7.heap.size := store3_size _ _ _ _
      have hz7 := hb7.size
      obtain ⟨wq, hwq⟩ : ∃ x, x = store3 w7 gk false t.1 := ⟨_, rfl⟩
      rw [← hwq] at hbx hx1' hx2' hx5' hT7 hR7 hN7 hB7 hzz
      unfold store3 at hwq
      rw [← hwq]
      have HZ7' := Lib.hid (show w.heap.size + 1 + 1 ≤ ge ∧ ge < wq.heap.size ∧ ge < gk ∧ gk < wq.heap.size by omega)
      have hnz := absR_pos HNZ.out
      have hiv := inv_any t.1 (absR t.2.2) wq hN7 Kc (by omega) (absR_le hL6) (by grind)
      unfold RB.val at hiv
      rw [absR_neg] at hiv
      have HSG := Lib.hid (show ∀ r, saysQ op ((absR t.2.2)⁻¹ * r) = saysQ op r from fun r => says_mul (.inl (inv_pos_ hnz)))
      have HNE := Lib.hid (show absR t.2.2 ≠ 0 by grind)
      have HLE := Lib.hid (absR_le hL6)
      have HIV := Lib.hid hiv
      have HB7 := Lib.hid hB7
      have HX1' := Lib.hid hx1'
      have HX2' := Lib.hid hx2'
      have HX5' := Lib.hid hx5'
      have HT7 := Lib.hid hT7
      have HR7 := Lib.hid hR7
      clear kk0 kk1 kk2
      obtain ⟨k0, k1, k2⟩ := boxk hbx
      obtain ⟨x0, x1, x2, x3, x4⟩ := box5 hx1'
      clear z0 z1 z2
      clear hwq hzz hz7 hB7 hN7 hR7 hT7 hx5' hx2' hx1' hz hty hbx hBk hiv hL6 hB6 hx1 hx2 hx5 hx6 hx7 hb7 hT6 hR6 hN6 hkc hnz HZ7
      have HZ7 := Lib.hid HZ7'.out
      have hcall := HIV.out
      go_upto_region 13 with (go_at_call 26; refine hcall.mono ?_; clear hcall; rintro e w8 ⟨b8, rfl, hr8, hb8⟩)
      have hx9 := heap_alloc_new w8 (.cells #[.bool (ratNeg ((absR t.2.2))⁻¹), .slice b8.A b8.n b8.c, .slice b8.A2 b8.n2 b8.c2] 33)
      have zw9 : (w8.alloc (.cells #[.bool (ratNeg ((absR t.2.2))⁻¹), .slice b8.A b8.n b8.c, .slice b8.A2 b8.n2 b8.c2] 33)).heap.size = w8.heap.size + 1 := by simp
      have aw9 := (Below.refl w8.heap.size w8).alloc (Nat.le_refl _) (.cells #[.bool (ratNeg ((absR t.2.2))⁻¹), .slice b8.A b8.n b8.c, .slice b8.A2 b8.n2 b8.c2] 33)
      obtain ⟨w9, ew9⟩ : ∃ x, x = w8.alloc (.cells #[.bool (ratNeg ((absR t.2.2))⁻¹), .slice b8.A b8.n b8.c, .slice b8.A2 b8.n2 b8.c2] 33) := ⟨_, rfl⟩
      rw [← ew9] at hx9 zw9 aw9 ⊢
      clear ew9
      obtain ⟨g8, hg8⟩ : ∃ x, x = w8.heap.size := ⟨_, rfl⟩
      rw [← hg8] at hx9 ⊢
      have b9 := hb8.trans (aw9.mono hb8.size)
      have hB9 := HB7.out.trans (b9.mono HB7.out.size)
      have hv1 := box_keep HX1'.out b9
      have hv2 := box_keep HX2'.out b9
      have hv5 := box_keep HX5'.out b9
      have hT9 := HT7.out.below b9
      have hR9 := HR7.out.below b9
      have hr9 := hr8.below aw9
      have hs2 := HB7.out.size
      have hs3 := HZ7.out
      have hs4 := hb8.size
      have hcs : ∀ W', Fr (fun kk => kk = w.heap.size + 1) w9 W' → (W'.cell? ⟨g8, 0, none⟩ = some (.bool (ratNeg ((absR t.2.2))⁻¹)) ∧ W'.cell? ⟨g8, 1, none⟩ = some (.slice b8.A b8.n b8.c) ∧ W'.cell? ⟨g8, 2, none⟩ = some (.slice b8.A2 b8.n2 b8.c2)) ∧ (W'.cell? ⟨ge, 0, none⟩ = some (.slice (some ⟨g3, of3, none⟩) n4 c4) ∧ W'.cell? ⟨ge, 1, none⟩ = some (.bool s) ∧ W'.cell? ⟨ge, 2, none⟩ = some (.slice b.A b.n b.c) ∧ W'.cell? ⟨ge, 3, none⟩ = some (.slice b.A2 b.n2 b.c2)) ∧ W'.cell? ⟨w.heap.size, 4, none⟩ = some (.int .i64 op) := fun W' hb => ⟨boxk ((hb.block _ (lt_of_blk hx9) (by omega)).trans hx9), box4 ((hb.block _ (lt_of_blk hv5) (by omega)).trans hv5), (box5 ((hb.block _ (lt_of_blk hv1) (by omega)).trans hv1)).2.2.2.2⟩
      have hsc : ∀ W, Below w9.heap.size w9 W → Calls Tryz.prog 19 #[.agg #[.bool (ratNeg ((absR t.2.2))⁻¹), .slice b8.A b8.n b8.c, .slice b8.A2 b8.n2 b8.c2], .agg #[.slice (some ⟨g3, of3, none⟩) n4 c4, .bool s, .slice b.A b.n b.c, .slice b.A2 b.n2 b.c2]] W fun e w' => ExS W n4 (fun p => ((absR t.2.2))⁻¹ * evE p l4 q) (31 * (Kc + Kc + 1)) e w' := fun W hb => by
        rw [HS.out]
        exact scaleS b8 ((absR t.2.2))⁻¹ _ n4 c4 b l4 q Kc Kc W (hr9.below hb) (inv_le HLE.out HNE.out) (hT9.below hb) (hR9.below hb) HQK.out (by have := HN4.out; omega) (by have := HKC.out; omega)
      have HCS := Lib.hid hcs
      have HSC := Lib.hid hsc
      have HB9 := Lib.hid hB9
      have HX9 := Lib.hid hv2
      clear hcs hsc hB9 hv1 hv2 hv5 hT9 hR9 hr9 hs2 hs3 hs4 hx9 aw9 zw9 b9 hb8 hr8 hg8 x0 x1 x2 x3 x4
      go_region_held3 (fun W' => (W'.cell? ⟨g8, 0, none⟩ = some (.bool (ratNeg ((absR t.2.2))⁻¹)) ∧ W'.cell? ⟨g8, 1, none⟩ = some (.slice b8.A b8.n b8.c) ∧ W'.cell? ⟨g8, 2, none⟩ = some (.slice b8.A2 b8.n2 b8.c2)) ∧ (W'.cell? ⟨ge, 0, none⟩ = some (.slice (some ⟨g3, of3, none⟩) n4 c4) ∧ W'.cell? ⟨ge, 1, none⟩ = some (.bool s) ∧ W'.cell? ⟨ge, 2, none⟩ = some (.slice b.A b.n b.c) ∧ W'.cell? ⟨ge, 3, none⟩ = some (.slice b.A2 b.n2 b.c2)) ∧ W'.cell? ⟨w.heap.size, 4, none⟩ = some (.int .i64 op)) ((refine HCS.out _ ?_; repeat' (first | with_reducible exact Fr.of_below k1 | with_reducible exact (Fr.refl _ _).drew | with_reducible refine fr_set ?_ ?_ | exact .inl rfl))) (first | (go_at_call 19; refine (HSC.out _ (below_drew2 (Below.refl _ _))).mono ?_; rintro e u1 ⟨A6, n6, c6, b6, l6, q6, rfl, ht6, hr6, hq6, hn6, he6, hb6⟩; have k1 : Below w9.heap.size w9 u1 := (below_drew2 (Below.refl _ _)).trans (hb6.mono (Nat.le_refl _)); have HXU := Lib.hid (box_keep HX9.out k1); obtain ⟨p0, p1, p2, p3, p4⟩ := box5 HXU.out; have z0 := frozen_of_blk HXU.out 0; have z1 := frozen_of_blk HXU.out 1; have z2 := frozen_of_blk HXU.out 2; have z3 := frozen_of_blk HXU.out 3; have z4 := frozen_of_blk HXU.out 4; have H6 := Lib.hid (And.intro ht6 (And.intro hr6 (And.intro hq6 (And.intro hn6 he6)))); clear hb6 ht6 hr6 hq6 hn6 he6))
      all_goals
        go_wp2_with fail
        refine bodyPost_ret (v := .tuple #[.agg #[.slice A6 n6 c6, .bool (ratNeg q6), .slice b6.A b6.n b6.c, .slice b6.A2 b6.n2 b6.c2, .int .i64 op], .int .i64 0, .int .i64 0]) (by simp [results, Tryz.results13, go_sem, p0, p1, p2, p3, p4]) rfl ?_
        have hbel := HB9.out.trans (k1.mono HB9.out.size)
        have hfr := store5_fr u1 (w.heap.size + 1) A6 n6 c6 (ratNeg q6) b6 op
        have hty := typ_of HXU.out (by decide)
        obtain ⟨ht6, hr6, hq6, hn6, he6⟩ := H6.out
        have hn4 := HN4.out
        refine ⟨A6, n6, c6, b6, l6, q6, op, 0, rfl, store5_bel hbel (by omega) _ _ _ _ _ _, .inl ⟨rfl, rfl, by rw [← HKC.out.1]; exact ht6.fr hfr hty, hr6.frB hfr hty, by rw [← HKC.out.1]; exact hq6, by omega, fun p => ?_⟩⟩
        rw [he6 p, HSG.out, can_val HP4.out HG4.out p q]
end Go.Proofs.YtlbbbafehhdpnaaGreatDoor
