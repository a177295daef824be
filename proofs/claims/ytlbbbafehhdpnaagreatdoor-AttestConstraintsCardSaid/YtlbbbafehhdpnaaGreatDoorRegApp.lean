/- append within a region that draws its order; worlds behind a draw. -/
import Derived.Test.YtlbbbafehhdpnaaGreatDoorMem2
import Derived.Deep.RegionLaw
import Derived.Test.YtlbbbafehhdpnaaGreatDoorLinCanon
namespace Go.Proofs.YtlbbbafehhdpnaaGreatDoor
open Go.RowKit
set_option linter.unusedVariables false
set_option linter.unusedSimpArgs false

theorem below_drewA {B : Nat} {a w : World} (h : Below B a w) : Below B a w.drew := ⟨h.os, h.tape, h.output, h.size, h.block⟩
theorem app_below {w w' : World} {o : Obj} {b : Nat} (hb : w.heap.size ≤ b) (hg : (w.drew.alloc o).grownBy w' (some b)) : Below w.heap.size w w' := by
  have h1 : Fr (fun _ => False) w (w.drew.alloc o) := (Fr.refl _ w).drew.alloc o
  have h2 : Fr (fun x => x = b) (w.drew.alloc o) w' := Fr.of_grown hg (fun k hk => .inl (by injection hk with hk; exact hk.symm))
  exact (h1.trans h2 (fun x hx => .inr (by omega))).below (Nat.le_refl _) (fun b h => h.elim)
theorem own_emptyS (w : World) (E : TypeId) (size B : Nat) (hB : B ≤ w.heap.size) : (w.alloc (.cells #[] E)).ownsRow B E size (.slice (some ⟨w.heap.size, 0, none⟩) 0 0) 0 [] := by
  have := World.ownsRow_lit (base := B) (e := E) (size := size) w #[] 0 hB (by unfold maxLen; omega) (by simp)
  simpa using this
/-- 'append(out, xs...)' as one step of a region that draws its order; xs whatever slice that reads. -/
theorem stepRS {P : Program} (B : Nat) (w : World) (size : Nat) (E : TypeId) {ops : Array Oper} {o : Oper} {a : Act} {K : Act → World → Prop} {Q : Exit → Act → World → Prop} {E' : Prop} (hgd : o.guard = none) (s x : Operand) (t : TypeId)
    (ho : o.op = .call { callee := .builtin .append, args := #[s, x], argTypes := #[t, t] })
    (i : TypeInfo) (z : Value) (bytes : Nat) (ht : P.underlying t = some (.slice E)) (hi : P.info? E = some i) (hz : i.zero = some z)
    (hsize : i.size = size) (hby : i.bytes = bytes) (hzs : z.cells.size = size) (hsz : 0 < size) (hb1 : 0 < bytes)
    (v : Value) (n : Nat) (xs : List Value) (hs : a.eval s = v) (hBw : B ≤ w.heap.size) (hown : w.ownsRow B E size v n xs)
    (A : Option Addr) (m c : Nat) (news : List Value) (hx : a.eval x = .slice A m c) (hrd : Rd w size A m news) (h1 : ∀ u ∈ news, u.oneCell' = true) (hbytes : (n + m) * bytes ≤ 140737488355328)
    (h : ∀ v' w', w'.ownsRow B E size v' (n + m) (xs ++ news) → w.grownBy w' v.ownBlock → K (a.put o.dst v') w') :
    if Region.wanted o (yielded ops a.tmps) = true then Oper.wp P o a w K Q else E' := by
  have hm : n + m ≤ (n + m) * bytes := Nat.le_mul_of_pos_right _ hb1
  have hw : Region.wanted o (yielded ops a.tmps) = true := by simp [Region.wanted, hgd]
  rw [if_pos hw]
  have hrun : ∃ v' w', (Builtin.append_ #[t, t] o.type #[v, .slice A m c]).run P w = .ok v' w' ∧ w'.ownsRow B E size v' (n + m) (xs ++ news) ∧ w.grownBy w' v.ownBlock := by
    rcases A with _ | ad
    · have hm0 : m = 0 := by
        rcases Nat.eq_zero_or_pos m with h0 | h0
        · exact h0
        · obtain ⟨_, _, h', _⟩ := hrd.2 h0
          cases h'
      subst hm0
      have hn : news = [] := List.eq_nil_of_length_eq_zero (by simpa using hrd.1)
      subst hn
      refine ⟨v, w, ?_, by simpa using hown, World.grownBy.refl w _⟩
      rcases hown.2 with ⟨rfl, rfl⟩ | ⟨g, cap, cur, rfl, _, _, hnc, _⟩
      · simp [Builtin.append_, run_underlying ht, sizeOf, typeInfo, hi, Builtin.lenOf, Builtin.firstCells]
      · simp [Builtin.append_, run_underlying ht, sizeOf, typeInfo, hi, Builtin.lenOf, Builtin.firstCells, hnc, storeCells]
    · obtain ⟨v', w', hr, h2, h3, _, _⟩ := run_append_own_at (P := P) (w := w) B t o.type E i z size bytes ht hi hz hsize hby hzs hsz v n xs hown ad m c news hrd.1 (by
        intro j u hu
        have hj : 0 < m := by
          have h1 := (List.getElem?_eq_some_iff.1 hu).1
          have h2 := hrd.1
          rcases Nat.eq_zero_or_pos m with h0 | h0
          · rw [h2, h0] at h1; simp at h1
          · exact h0
        obtain ⟨b, off, e, hc⟩ := hrd.2 hj
        injection e with e
        subst e
        rw [addr_add_none]
        exact hc j u hu) h1 (by unfold maxLen; omega) hbytes hBw
      exact ⟨v', w', hr, h2, h3⟩
  obtain ⟨v', w', hr, h2, h3⟩ := hrun
  unfold Oper.wp execOp
  simp only [ho, resolve, invoke, builtin, Sem.run_bind, Sem.run_pure, Result.andThen_ok, List.map_toArray, List.map_cons, List.map_nil, hs, hx, hr]
  exact h v' w' h2 h3
end Go.Proofs.YtlbbbafehhdpnaaGreatDoor

namespace Go.Proofs.YtlbbbafehhdpnaaGreatDoor
open Go.RowKit
set_option linter.unusedVariables false
set_option linter.unusedSimpArgs false

def exV (A : Option Addr) (n c : Nat) (s : Bool) (b : RB) : Value := .agg #[.slice A n c, .bool s, .slice b.A b.n b.c, .slice b.A2 b.n2 b.c2]
/-- 'the answer is an expression: these terms rearranged and put together, this constant' -/
def ExP (w : World) (n : Nat) (l : List TB) (q : Rat) (k kq : Nat) (r : Ending) (w' : World) : Prop :=
  ∃ (A' : Option Addr) (n' c' : Nat) (b' : RB) (l' ls : List TB), r = .returned (.agg #[.slice A' n' c', .bool (ratNeg q), .slice b'.A b'.n b'.c, .slice b'.A2 b'.n2 b'.c2]) ∧ (tmsOf ls).Perm (tmsOf l) ∧ tmsOf l' = grp (tmsOf ls) ∧ TmsAt w' A' n' c' l' (31 * (k + 1)) ∧ RatAt w' b' q ∧ RatLe q kq ∧ n' ≤ n ∧ Below w.heap.size w w'
set_option maxRecDepth 100000 in
set_option maxHeartbeats 4000000 in
theorem eadd_any (A : Option Addr) (n c : Nat) (b : RB) (l : List TB) (q : Rat) (A2 : Option Addr) (n2 c2 : Nat) (b2 : RB) (l2 : List TB) (q2 : Rat) (k : Nat) (w : World) (h : TmsAt w A n c l k) (hr : RatAt w b q) (hq : RatLe q k) (h2 : TmsAt w A2 n2 c2 l2 k) (hr2 : RatAt w b2 q2) (hq2 : RatLe q2 k) (hn : n + n2 ≤ 30) (hk : k ≤ 30000) :
    Calls Tryz.prog 14 #[.agg #[.slice A n c, .bool (ratNeg q), .slice b.A b.n b.c, .slice b.A2 b.n2 b.c2], .agg #[.slice A2 n2 c2, .bool (ratNeg q2), .slice b2.A b2.n b2.c, .slice b2.A2 b2.n2 b2.c2]] w fun r w' => ExP w (n + n2) (l ++ l2) (q + q2) k (k + k + 1) r w' := by
  obtain ⟨s, hs⟩ : ∃ s, s = ratNeg q := ⟨_, rfl⟩
  obtain ⟨s2, hs2⟩ : ∃ s2, s2 = ratNeg q2 := ⟨_, rfl⟩
  rw [← hs, ← hs2]
  have HS := Lib.hid hs
  have HS2 := Lib.hid hs2
  clear hs hs2
  go_enter Tryz.func14, Tryz.ntmps14
  go_upto_region 1 with fail
  have hx1 := heap_alloc_new w (.cells #[.slice A n c, .bool s, .slice b.A b.n b.c, .slice b.A2 b.n2 b.c2] 35)
  have hw1 : (w.alloc (.cells #[.slice A n c, .bool s, .slice b.A b.n b.c, .slice b.A2 b.n2 b.c2] 35)).heap.size = w.heap.size + 1 := by simp
  have hbw := (Below.refl w.heap.size w).alloc (Nat.le_refl _) (.cells #[.slice A n c, .bool s, .slice b.A b.n b.c, .slice b.A2 b.n2 b.c2] 35)
  obtain ⟨wk, hwk⟩ : ∃ x, x = w.alloc (.cells #[.slice A n c, .bool s, .slice b.A b.n b.c, .slice b.A2 b.n2 b.c2] 35) := ⟨_, rfl⟩
  rw [← hwk] at hx1 hbw hw1 ⊢
  clear hwk
  have hx2 := heap_alloc_new wk (.cells #[.slice A2 n2 c2, .bool s2, .slice b2.A b2.n b2.c, .slice b2.A2 b2.n2 b2.c2] 35)
  have hx1' := box_keep hx1 ((Below.refl _ _).alloc (Nat.le_refl _) (.cells #[.slice A2 n2 c2, .bool s2, .slice b2.A b2.n b2.c, .slice b2.A2 b2.n2 b2.c2] 35))
  have hbw2 := hbw.alloc hbw.size (.cells #[.slice A2 n2 c2, .bool s2, .slice b2.A b2.n b2.c, .slice b2.A2 b2.n2 b2.c2] 35)
  have hw2 : (wk.alloc (.cells #[.slice A2 n2 c2, .bool s2, .slice b2.A b2.n b2.c, .slice b2.A2 b2.n2 b2.c2] 35)).heap.size = w.heap.size + 1 + 1 := by simp [hw1]
  obtain ⟨wm, hwm⟩ : ∃ x, x = wk.alloc (.cells #[.slice A2 n2 c2, .bool s2, .slice b2.A b2.n b2.c, .slice b2.A2 b2.n2 b2.c2] 35) := ⟨_, rfl⟩
  rw [hw1] at hx2
  rw [← hwm] at hx2 hx1' hbw2 hw2 ⊢
  clear hwm hx1 hbw hw1
  have hx3 := heap_alloc_new wm (.cells #[.slice none 0 0, .bool false, .slice none 0 0, .slice none 0 0] 35)
  have hx1 := box_keep hx1' ((Below.refl _ _).alloc (Nat.le_refl _) (.cells #[.slice none 0 0, .bool false, .slice none 0 0, .slice none 0 0] 35))
  have hx2' := box_keep hx2 ((Below.refl _ _).alloc (Nat.le_refl _) (.cells #[.slice none 0 0, .bool false, .slice none 0 0, .slice none 0 0] 35))
  have hbz := hbw2.alloc hbw2.size (.cells #[.slice none 0 0, .bool false, .slice none 0 0, .slice none 0 0] 35)
  have hw3 : (wm.alloc (.cells #[.slice none 0 0, .bool false, .slice none 0 0, .slice none 0 0] 35)).heap.size = w.heap.size + 1 + 1 + 1 := by simp [hw2]
  obtain ⟨wz, hwz⟩ : ∃ x, x = wm.alloc (.cells #[.slice none 0 0, .bool false, .slice none 0 0, .slice none 0 0] 35) := ⟨_, rfl⟩
  rw [hw2] at hx3
  rw [← hwz] at hx3 hx1 hx2' hbz hw3 ⊢
  clear hwz hx1' hx2 hbw2 hw2
  have hcs : ∀ W', Fr (fun kk => kk = w.heap.size + 1 + 1) wz W' → (W'.cell? ⟨w.heap.size, 0, none⟩ = some (.slice A n c) ∧ W'.cell? ⟨w.heap.size, 1, none⟩ = some (.bool s) ∧ W'.cell? ⟨w.heap.size, 2, none⟩ = some (.slice b.A b.n b.c) ∧ W'.cell? ⟨w.heap.size, 3, none⟩ = some (.slice b.A2 b.n2 b.c2)) ∧ W'.cell? ⟨w.heap.size + 1, 0, none⟩ = some (.slice A2 n2 c2) ∧ W'.cell? ⟨w.heap.size + 1, 1, none⟩ = some (.bool s2) ∧ W'.cell? ⟨w.heap.size + 1, 2, none⟩ = some (.slice b2.A b2.n b2.c) ∧ W'.cell? ⟨w.heap.size + 1, 3, none⟩ = some (.slice b2.A2 b2.n2 b2.c2) := fun W' hb => ⟨box4 ((hb.block _ (lt_of_blk hx1) (by omega)).trans hx1), box4 ((hb.block _ (lt_of_blk hx2') (by omega)).trans hx2')⟩
  have hcl := fun W (hb : Below wz.heap.size wz W) => clone_any l A n c W ((h.below hbz).below hb).rd h.len (by omega)
  have hra := fun W (hb : Below wz.heap.size wz W) => add_any b b2 q q2 W ((hr.below hbz).below hb) ((hr2.below hbz).below hb) k (by omega) hq hq2
  unfold RB.val at hra
  rw [← HS.out, ← HS2.out] at hra
  have hca := fun W A3 n3 c3 b3 (l3 : List TB) (ht : TmsAt W A3 n3 c3 l3 k) (hn3 : n3 ≤ 30) => canon_any A3 n3 c3 b3 l3 (q + q2) k W ht hn3 hk
  have HCS := Lib.hid hcs
  have HCL := Lib.hid hcl
  have HRA := Lib.hid hra
  have HCA := Lib.hid hca
  have HX3 := Lib.hid hx3
  have HBZ := Lib.hid hbz
  have HT := Lib.hid (h.below hbz)
  have HT2 := Lib.hid (h2.below hbz)
  have HQ := Lib.hid (add_le hq hq2)
  have HWZ := Lib.hid hw3
  obtain ⟨i0, hi, hz0, hz1, hz2⟩ := info_parts info_term
  clear hcs hcl hra hca hx3 hbz h h2 hr hr2 hq hq2 hx1 hx2' hw3
  go_region_held3 (fun W' => (W'.cell? ⟨w.heap.size, 0, none⟩ = some (.slice A n c) ∧ W'.cell? ⟨w.heap.size, 1, none⟩ = some (.bool s) ∧ W'.cell? ⟨w.heap.size, 2, none⟩ = some (.slice b.A b.n b.c) ∧ W'.cell? ⟨w.heap.size, 3, none⟩ = some (.slice b.A2 b.n2 b.c2)) ∧ W'.cell? ⟨w.heap.size + 1, 0, none⟩ = some (.slice A2 n2 c2) ∧ W'.cell? ⟨w.heap.size + 1, 1, none⟩ = some (.bool s2) ∧ W'.cell? ⟨w.heap.size + 1, 2, none⟩ = some (.slice b2.A b2.n b2.c) ∧ W'.cell? ⟨w.heap.size + 1, 3, none⟩ = some (.slice b2.A2 b2.n2 b2.c2)) ((refine HCS.out _ ?_; repeat' (first | with_reducible exact Fr.of_below k4 | with_reducible exact Fr.of_below k3 | with_reducible exact Fr.of_below k2 | with_reducible exact Fr.of_below k1 | with_reducible exact (Fr.refl _ _).drew | with_reducible refine fr_set ?_ ?_ | exact .inl rfl))) (first | (go_at_call 27; refine (HCL.out _ (below_drew2 (Below.refl _ _))).mono ?_; rintro e u1 ⟨v1, rfl, ho1, hb1⟩; have k1 : Below wz.heap.size wz u1 := (below_drew2 (Below.refl _ _)).trans (hb1.mono (Nat.le_refl _)); have HO1 := Lib.hid (show u1.ownsRow wz.heap.size 70 4 v1 n (tmsL l) from ho1); clear ho1 hb1) | (refine stepRS wz.heap.size u1 4 70 rfl (.tmp 7) (.tmp 9) 30 rfl i0 _ 64 Tryz.underlying30 hi hz0 hz1 hz2 rfl (by decide) (by decide) v1 n (tmsL l) rfl k1.size HO1.out A2 n2 c2 (tmsL l2) rfl (HT2.out.below k1).rd (tmsL_one l2) (by omega) ?_; intro v2 u2 ho2 hg2; have k2 : Below wz.heap.size wz u2 := k1.grown hg2 k1.size (fun kk hk => (HO1.out.lt kk hk).1); obtain ⟨A3, c3, rfl, ht3⟩ := TmsAt.of_own (l := l ++ l2) (k := k) (by rw [tmsL_app]; exact ho2) (fun t ht => by rcases List.mem_append.1 ht with ht | ht; exact (HT.out.each t ht).below k2; exact (HT2.out.each t ht).below k2); have HT3 := Lib.hid ht3; clear ho2 hg2 ht3) | (go_at_call 28; refine (HRA.out _ k2).mono ?_; rintro e u3 ⟨b3, rfl, hr3, hb3⟩; have k3 : Below wz.heap.size wz u3 := k2.trans (hb3.mono k2.size); have HR3 := Lib.hid hr3; have HT3' := Lib.hid (HT3.out.below hb3); clear hr3 hb3) | (go_at_call 24; refine (HCA.out _ A3 (n + n2) c3 b3 (l ++ l2) HT3'.out hn).mono ?_; rintro e u4 ⟨A4, n4, c4, l4, ls4, rfl, hp4, hg4, ht4, hn4, hb4⟩; have k4 : Below wz.heap.size wz u4 := k3.trans (hb4.mono k3.size); have HR4 := Lib.hid (HR3.out.below hb4); have HT4 := Lib.hid ht4; have HG4 := Lib.hid (And.intro hp4 (And.intro hg4 hn4)); have HX4 := Lib.hid (box_keep HX3.out k4); obtain ⟨y0, y1, y2, y3⟩ := box4 HX4.out; have z0 := frozen_of_blk HX4.out 0; have z1 := frozen_of_blk HX4.out 1; have z2 := frozen_of_blk HX4.out 2; have z3 := frozen_of_blk HX4.out 3; clear ht4 hp4 hg4 hn4 hb4))
  all_goals
    go_wp2_with fail
    refine bodyPost_ret (v := .agg #[.slice A4 n4 c4, .bool (ratNeg (q + q2)), .slice b3.A b3.n b3.c, .slice b3.A2 b3.n2 b3.c2]) (by simp [results, Tryz.results14, go_sem, y0, y1, y2, y3]) rfl ?_
    have hbel := HBZ.out.trans (k4.mono HBZ.out.size)
    have hfr := store4_fr u4 (w.heap.size + 1 + 1) A4 n4 c4 (ratNeg (q + q2)) b3
    have hty := typ_of HX4.out (by decide)
    obtain ⟨hp4, hg4, hn4⟩ := HG4.out
    refine ⟨A4, n4, c4, b3, l4, ls4, rfl, hp4.map _, hg4, HT4.out.fr hfr hty, HR4.out.frB hfr hty, HQ.out, hn4, store4_bel hbel (by omega) _ _ _ _ _⟩
end Go.Proofs.YtlbbbafehhdpnaaGreatDoor
