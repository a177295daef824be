/- Contract of attestlaw09.Of. -/
import Derived.Test.YtlbbbafehhdpnaaGreatDoorLawEx
import Derived.Test.YtlbbbafehhdpnaaGreatDoorRegInv
namespace Go.Proofs.YtlbbbafehhdpnaaGreatDoor
open Go.RowKit
set_option linter.unusedVariables false
set_option linter.unusedSimpArgs false

/-- a constraint as it comes in. -/
structure XB where
  A : Option Addr
  n : Nat
  c : Nat
  l : List VB
  b : NB
  op : Int
def XB.cells (t : XB) : List Value := [.slice t.A t.n t.c, .bool t.b.s, .slice t.b.A t.b.n t.b.c, .slice t.b.A2 t.b.n2 t.b.c2, .int .i64 t.op]
def XB.ok (w : World) (t : XB) : Prop := VsAt w t.A t.n t.c t.l ∧ t.b.ok w
theorem XB.ok.below {w w' : World} {t : XB} (h : t.ok w) (hb : Below w.heap.size w w') : t.ok w' := ⟨h.1.below hb, h.2.below hb⟩
set_option maxRecDepth 100000 in
set_option maxHeartbeats 4000000 in
theorem aof_any (t : XB) (w : World) (h : t.ok w) (h1 : 1 ≤ t.op) (h3 : t.op ≤ 3) :
    Calls Tryz.prog 16 #[.agg #[.slice t.A t.n t.c, .bool t.b.s, .slice t.b.A t.b.n t.b.c, .slice t.b.A2 t.b.n2 t.b.c2, .int .i64 t.op]] w fun r w' => ∃ a : AB, r = .returned a.val ∧ AOk w' 12 8 a ∧ Below w.heap.size w w' := by
  obtain ⟨A, n, c, l, b, op⟩ := t
  simp only at h1 h3 ⊢
  go_enter Tryz.func16, Tryz.ntmps16
  go_upto_region 1 with fail
  have hx1 := heap_alloc_new w (.cells #[.slice A n c, .bool b.s, .slice b.A b.n b.c, .slice b.A2 b.n2 b.c2, .int .i64 op] 57)
  have zw1 : (w.alloc (.cells #[.slice A n c, .bool b.s, .slice b.A b.n b.c, .slice b.A2 b.n2 b.c2, .int .i64 op] 57)).heap.size = w.heap.size + 1 := by simp
  have aw1 := (Below.refl w.heap.size w).alloc (Nat.le_refl _) (.cells #[.slice A n c, .bool b.s, .slice b.A b.n b.c, .slice b.A2 b.n2 b.c2, .int .i64 op] 57)
  obtain ⟨w1, ew1⟩ : ∃ x, x = w.alloc (.cells #[.slice A n c, .bool b.s, .slice b.A b.n b.c, .slice b.A2 b.n2 b.c2, .int .i64 op] 57) := ⟨_, rfl⟩
  rw [← ew1] at hx1 zw1 aw1 ⊢
  clear ew1
  have hx2 := heap_alloc_new w1 (.cells #[.slice none 0 0, .bool false, .slice none 0 0, .slice none 0 0, .int .i64 0] 41)
  have zw2 : (w1.alloc (.cells #[.slice none 0 0, .bool false, .slice none 0 0, .slice none 0 0, .int .i64 0] 41)).heap.size = w1.heap.size + 1 := by simp
  have aw2 := (Below.refl w1.heap.size w1).alloc (Nat.le_refl _) (.cells #[.slice none 0 0, .bool false, .slice none 0 0, .slice none 0 0, .int .i64 0] 41)
  obtain ⟨w2, ew2⟩ : ∃ x, x = w1.alloc (.cells #[.slice none 0 0, .bool false, .slice none 0 0, .slice none 0 0, .int .i64 0] 41) := ⟨_, rfl⟩
  rw [← ew2] at hx2 zw2 aw2 ⊢
  clear ew2
  rw [zw1] at hx2
  have b2 := aw1.trans (aw2.mono aw1.size)
  have hv1 := box_keep hx1 aw2
  have hex := fun W (hb : Below w2.heap.size w2 W) => expr_any A n c l b W ((h.1.below b2).below hb) ((h.2.below b2).below hb)
  have hcs : ∀ W', Fr (fun kk => kk = w.heap.size + 1) w2 W' → W'.cell? ⟨w.heap.size, 0, none⟩ = some (.slice A n c) ∧ W'.cell? ⟨w.heap.size, 1, none⟩ = some (.bool b.s) ∧ W'.cell? ⟨w.heap.size, 2, none⟩ = some (.slice b.A b.n b.c) ∧ W'.cell? ⟨w.heap.size, 3, none⟩ = some (.slice b.A2 b.n2 b.c2) ∧ W'.cell? ⟨w.heap.size, 4, none⟩ = some (.int .i64 op) := fun W' hb => box5 ((hb.block _ (lt_of_blk hv1) (by omega)).trans hv1)
  have HEX := Lib.hid hex
  have HCS := Lib.hid hcs
  have HX2 := Lib.hid hx2
  have HB2 := Lib.hid b2
  clear hex hcs hx1 hx2 hv1 b2 aw1 aw2 zw1 zw2 h
  go_region_held3 (fun W' => W'.cell? ⟨w.heap.size, 0, none⟩ = some (.slice A n c) ∧ W'.cell? ⟨w.heap.size, 1, none⟩ = some (.bool b.s) ∧ W'.cell? ⟨w.heap.size, 2, none⟩ = some (.slice b.A b.n b.c) ∧ W'.cell? ⟨w.heap.size, 3, none⟩ = some (.slice b.A2 b.n2 b.c2) ∧ W'.cell? ⟨w.heap.size, 4, none⟩ = some (.int .i64 op)) ((refine HCS.out _ ?_; repeat' (first | with_reducible exact Fr.of_below k1 | with_reducible exact (Fr.refl _ _).drew | with_reducible refine fr_set ?_ ?_ | exact .inl rfl))) (first | (go_at_call 29; refine (HEX.out _ (below_drew2 (Below.refl _ _))).mono ?_; rintro e u1 ⟨A6, n6, c6, b6, l6, q6, rfl, ht6, hr6, hq6, hn6, hb6⟩; have k1 : Below w2.heap.size w2 u1 := (below_drew2 (Below.refl _ _)).trans (hb6.mono (Nat.le_refl _)); have HXU := Lib.hid (box_keep HX2.out k1); obtain ⟨p0, p1, p2, p3, p4⟩ := box5 HXU.out; have z0 := frozen_of_blk HXU.out 0; have z1 := frozen_of_blk HXU.out 1; have z2 := frozen_of_blk HXU.out 2; have z3 := frozen_of_blk HXU.out 3; have z4 := frozen_of_blk HXU.out 4; have H6 := Lib.hid (And.intro ht6 (And.intro hr6 (And.intro hq6 hn6))); clear hb6 ht6 hr6 hq6 hn6))
  all_goals
    go_wp2_with fail
    refine bodyPost_ret (v := .agg #[.slice A6 n6 c6, .bool (ratNeg q6), .slice b6.A b6.n b6.c, .slice b6.A2 b6.n2 b6.c2, .int .i64 op]) (by simp [results, Tryz.results16, go_sem, p0, p1, p2, p3, p4]) rfl ?_
    obtain ⟨ht6, hr6, hq6, hn6⟩ := H6.out
    have hbel := HB2.out.trans (k1.mono HB2.out.size)
    have hfr := store5_fr u1 (w.heap.size + 1) A6 n6 c6 (ratNeg q6) b6 op
    have hty := typ_of HXU.out (by decide)
    exact ⟨⟨A6, n6, c6, b6, l6, q6, op⟩, rfl, ⟨ht6.fr hfr hty, hr6.frB hfr hty, hq6, hn6, h1, h3⟩, store5_bel hbel (Nat.le_succ _) _ _ _ _ _ _⟩
end Go.Proofs.YtlbbbafehhdpnaaGreatDoor

namespace Go.Proofs.YtlbbbafehhdpnaaGreatDoor
open Go.RowKit
set_option linter.unusedVariables false
set_option linter.unusedSimpArgs false

def xbsL (l : List XB) : List Value := l.flatMap XB.cells
theorem xbsL_cons (a : XB) (l : List XB) : xbsL (a :: l) = a.cells ++ xbsL l := List.flatMap_cons
theorem xbsL_at : ∀ (l : List XB) (k : Nat) (p : XB), l[k]? = some p → ∀ j, j < 5 → (xbsL l)[k * 5 + j]? = p.cells[j]?
  | [], k, p, h, _, _ => by simp at h
  | p' :: l, 0, p, h, j, hj => by
    simp at h
    subst h
    rw [xbsL_cons, List.getElem?_append_left (by simp [XB.cells]; omega)]
    simp
  | p' :: l, k + 1, p, h, j, hj => by
    have ih := xbsL_at l k p (by simpa using h) j hj
    have hl : p'.cells.length = 5 := rfl
    rw [xbsL_cons, List.getElem?_append_right (by omega), hl, show (k + 1) * 5 + j - 5 = k * 5 + j by omega]
    exact ih
structure XsAt (w : World) (A : Option Addr) (n c : Nat) (l : List XB) : Prop where
  rd : Rd w 5 A n (xbsL l)
  len : l.length = n
  cap : n ≤ c
  each : ∀ t ∈ l, t.ok w
theorem XsAt.below {w w' : World} {A : Option Addr} {n c : Nat} {l : List XB} (h : XsAt w A n c l) (hb : Below w.heap.size w w') : XsAt w' A n c l := ⟨h.rd.below hb, h.len, h.cap, fun b hm => (h.each b hm).below hb⟩
theorem Rd.atX {w : World} {A : Option Addr} {n : Nat} {l : List XB} (h : Rd w 5 A n (xbsL l)) (hl : l.length = n) {i : Nat} (hi : i < n) : ∃ (g off : Nat) (t : XB), A = some ⟨g, off, none⟩ ∧ l[i]? = some t ∧ w.cell? ⟨g, off + i * 5, none⟩ = some (.slice t.A t.n t.c) ∧ w.cell? ⟨g, off + i * 5 + 1, none⟩ = some (.bool t.b.s) ∧ w.cell? ⟨g, off + i * 5 + 2, none⟩ = some (.slice t.b.A t.b.n t.b.c) ∧ w.cell? ⟨g, off + i * 5 + 3, none⟩ = some (.slice t.b.A2 t.b.n2 t.b.c2) ∧ w.cell? ⟨g, off + i * 5 + 4, none⟩ = some (.int .i64 t.op) := by
  obtain ⟨g, off, e, hc⟩ := h.2 (by omega)
  have hl' : i < l.length := by omega
  have key := xbsL_at l i l[i] (List.getElem?_eq_getElem hl')
  refine ⟨g, off, l[i], e, List.getElem?_eq_getElem hl', ?_, ?_, ?_, ?_, ?_⟩
  · have := hc (i * 5) _ ((key 0 (by decide)).trans rfl)
    exact this
  · have := hc (i * 5 + 1) _ ((key 1 (by decide)).trans rfl)
    rwa [← Nat.add_assoc] at this
  · have := hc (i * 5 + 2) _ ((key 2 (by decide)).trans rfl)
    rwa [← Nat.add_assoc] at this
  · have := hc (i * 5 + 3) _ ((key 3 (by decide)).trans rfl)
    rwa [← Nat.add_assoc] at this
  · have := hc (i * 5 + 4) _ ((key 4 (by decide)).trans rfl)
    rwa [← Nat.add_assoc] at this
theorem AB.one (a : AB) : ∀ u ∈ a.cells, u.oneCell' = true := by
  intro u hu
  simp [AB.cells] at hu
  rcases hu with rfl | rfl | rfl | rfl | rfl <;> rfl
theorem info_atom : (Tryz.prog.info? 41).map (fun i => (i.zero, i.size, i.bytes)) = some (some (.agg #[.slice none 0 0, .bool false, .slice none 0 0, .slice none 0 0, .int .i64 0]), 5, 88) := by kernel_rfl
theorem own_typA {w : World} {B n : Nat} {v : Value} {xs : List Value} (h : w.ownsRow B 41 5 v n xs) : ∀ b, ownS v b → ∃ cs t m, w.heap[b]? = some (.cells cs t m) ∧ t ≠ 92 ∧ t ≠ 70 := by
  intro b hb
  rcases h.2 with ⟨rfl, _⟩ | ⟨g, cap, cur, rfl, _, hx, _⟩
  · simp [ownS, Value.ownBlock] at hb
  · have : g = b := by simpa [ownS, Value.ownBlock] using hb
    subst this
    exact ⟨cur, _, _, hx, by decide⟩
theorem lit5_rd (w : World) (a : AB) : Rd (w.alloc (.cells #[.slice a.A a.n a.c, .bool (ratNeg a.q), .slice a.b.A a.b.n a.b.c, .slice a.b.A2 a.b.n2 a.b.c2, .int .i64 a.op] 41)) 5 (some ⟨w.heap.size, 0, none⟩) 1 a.cells := by
  have hown := World.ownsRow_lit (base := 0) (e := 41) (size := 5) w #[.slice a.A a.n a.c, .bool (ratNeg a.q), .slice a.b.A a.b.n a.b.c, .slice a.b.A2 a.b.n2 a.b.c2, .int .i64 a.op] 1 (Nat.zero_le _) (by unfold maxLen; omega) rfl
  obtain ⟨A, c, e, _, hr⟩ := ownsRow_form hown
  injection e with e1
  subst e1
  exact hr
set_option maxRecDepth 100000 in
set_option maxHeartbeats 4000000 in
theorem atoms_any (A : Option Addr) (n c : Nat) (l : List XB) (w : World) (h : XsAt w A n c l) :
    Calls Tryz.prog 4 #[.slice A n c] w fun r w' => ∃ (A' : Option Addr) (n' c' : Nat) (la : List AB), r = .returned (.slice A' n' c') ∧ AtmsAt w' A' n' c' la 12 8 ∧ n' ≤ 8 ∧ Below w.heap.size w w' := by
  have H := Lib.hid h
  obtain ⟨i0, hi, hz0, hz1, hz2⟩ := info_parts info_atom
  clear h
  go_enter Tryz.func4, Tryz.ntmps4
  go_upto_region 2 with fail
  obtain ⟨w1, hw1⟩ : ∃ x, x = w.alloc (.cells #[] 41) := ⟨_, rfl⟩
  rw [← hw1]
  go_wp2_with fail
  go_loopw [3, 4] (fun v x wr => ∃ (i : Nat) (la : List AB), i ≤ n ∧ i ≤ 8 ∧ x = .int .i64 i ∧ wr.ownsRow w.heap.size 41 5 v la.length (atmsL la) ∧ la.length ≤ i ∧ (∀ a ∈ la, AOk wr 12 8 a) ∧ Below w.heap.size w wr) (fun _ x _ => n - (intOf x).toNat)
  case atStart =>
    refine ⟨0, [], Nat.zero_le _, Nat.zero_le _, by first | rfl | go_num, ?_, Nat.le_refl _, by simp, ?_⟩
    · rw [hw1]
      have := World.ownsRow_lit (base := w.heap.size) (e := 41) (size := 5) w #[] 0 (Nat.le_refl _) (by unfold maxLen; omega) rfl
      simpa [atmsL] using this
    · rw [hw1]
      exact (Below.refl _ _).alloc (Nat.le_refl _) _
  case round =>
    obtain ⟨i, la, hin, hi6, rfl, hown, hlen, heach, hb⟩ := hrel
    obtain ⟨w5, rfl⟩ : ∃ x, x = wr := ⟨_, rfl⟩
    by_cases hlt : i < n
    · by_cases h6 : i < 8
      · obtain ⟨g3, of3, t, ea, hti, y0, y1, y2, y3, y4⟩ := (H.out.below hb).rd.atX H.out.len hlt
        subst ea
        have hg3 : g3 < w5.heap.size := World.block_lt_of_cell? w5 _ y0
        have hcs : ∀ W, Below w5.heap.size w5 W → W.cell? ⟨g3, of3 + i * 5, none⟩ = some (.slice t.A t.n t.c) ∧ W.cell? ⟨g3, of3 + i * 5 + 1, none⟩ = some (.bool t.b.s) ∧ W.cell? ⟨g3, of3 + i * 5 + 2, none⟩ = some (.slice t.b.A t.b.n t.b.c) ∧ W.cell? ⟨g3, of3 + i * 5 + 3, none⟩ = some (.slice t.b.A2 t.b.n2 t.b.c2) ∧ W.cell? ⟨g3, of3 + i * 5 + 4, none⟩ = some (.int .i64 t.op) := fun W hW => ⟨(hW.cell (p := ⟨g3, of3 + i * 5, none⟩) hg3).trans y0, (hW.cell (p := ⟨g3, of3 + i * 5 + 1, none⟩) hg3).trans y1, (hW.cell (p := ⟨g3, of3 + i * 5 + 2, none⟩) hg3).trans y2, (hW.cell (p := ⟨g3, of3 + i * 5 + 3, none⟩) hg3).trans y3, (hW.cell (p := ⟨g3, of3 + i * 5 + 4, none⟩) hg3).trans y4⟩
        have hok := (H.out.below hb).each t (List.mem_of_getElem? hti)
        have hgo := good_any t.A t.n t.c t.b.s t.b.A t.b.n t.b.c t.b.A2 t.b.n2 t.b.c2 t.op w5
        have b0 : (0 : Int) ≤ (i : Int) := by omega
        have HCS := Lib.hid hcs
        have HOK := Lib.hid hok
        have HOWN := Lib.hid hown
        have HE := Lib.hid heach
        have HB := Lib.hid hb
        clear hcs hok hown heach hb hti
        by_cases hg : 1 ≤ t.op ∧ t.op ≤ 3
        · rw [decide_eq_true hg.1, decide_eq_true hg.2, Bool.and_self] at hgo
          have hof := fun W (hW : Below w5.heap.size w5 W) => aof_any t W (HOK.out.below hW) hg.1 hg.2
          have HOF := Lib.hid hof
          clear hof
          go_upto_region 6 with (go_at_call 15; refine hgo.mono ?_; clear hgo; rintro e w6 ⟨rfl, hb6⟩)
          obtain ⟨x0, x1, x2, x3, x4⟩ := HCS.out w6 hb6
          have hof := HOF.out w6 hb6
          clear y0 y1 y2 y3 y4
          go_upto_region 4 with (first | (go_at_call 16; refine hof.mono ?_; clear hof; rintro e w7 ⟨a, rfl, hok7, hb7⟩; unfold AB.val; have HA7 := Lib.hid hok7; have hb57 := hb6.trans (hb7.mono hb6.size); have HB57 := Lib.hid hb57; have hown7 := own_below HOWN.out (hb57.alloc hb57.size (.cells #[.slice a.A a.n a.c, .bool (ratNeg a.q), .slice a.b.A a.b.n a.b.c, .slice a.b.A2 a.b.n2 a.b.c2, .int .i64 a.op] 41)); have hbel7 := HB.out.trans ((hb57.alloc hb57.size (.cells #[.slice a.A a.n a.c, .bool (ratNeg a.q), .slice a.b.A a.b.n a.b.c, .slice a.b.A2 a.b.n2 a.b.c2, .int .i64 a.op] 41)).mono HB.out.size); clear hok7 hb57) | (at_builtin; refine appRn w.heap.size w _ 5 41 rfl _ _ 24 rfl i0 _ 88 Tryz.underlying24 hi hz0 hz1 hz2 rfl (by decide) (by decide) _ la.length (atmsL la) rfl (Nat.le_refl _) hown7 hbel7 _ 1 1 a.cells rfl (lit5_rd w7 a) a.one (by omega) ?_; intro v8 w8 hown8 hbel8 hg8))
          go_wp2_with fail
          go_roundw
          case rel =>
            refine ⟨i + 1, la ++ [a], by omega, by omega, by go_num, ?_, by simp; omega, ?_, hbel8⟩
            · rw [atmsL_app, List.length_append, List.length_singleton]
              simpa [atmsL] using hown8
            · have hf := Fr.of_grown (S := ownS u3) hg8 (fun k hk => .inl hk)
              have hal := (Below.refl w7.heap.size w7).alloc (Nat.le_refl _) (.cells #[.slice a.A a.n a.c, .bool (ratNeg a.q), .slice a.b.A a.b.n a.b.c, .slice a.b.A2 a.b.n2 a.b.c2, .int .i64 a.op] 41)
              intro p hp
              rcases List.mem_append.1 hp with h1 | h1
              · exact (((HE.out p h1).below HB57.out).below hal).fr hf (own_typA hown7)
              · simp at h1
                subst h1
                exact (HA7.out.below hal).fr hf (own_typA hown7)
          case measure => simp [intOf]; omega
        · rw [show (decide (1 ≤ t.op) && decide (t.op ≤ 3)) = false by rw [Bool.and_eq_false_iff, decide_eq_false_iff_not, decide_eq_false_iff_not]; omega] at hgo
          go_upto_region 4 with (go_at_call 15; refine hgo.mono ?_; clear hgo; rintro e w6 ⟨rfl, hb6⟩)
          go_wp2_with fail
          go_roundw
          case rel => exact ⟨i + 1, la, by omega, by omega, by go_num, own_below HOWN.out hb6, by omega, fun a ha => (HE.out a ha).below hb6, HB.out.trans (hb6.mono HB.out.size)⟩
          case measure => simp [intOf]; omega
      · have h6' : ¬ ((i : Int) < 8) := by omega
        obtain ⟨Ax, cx, rfl, hp⟩ := AtmsAt.of_own hown heach
        have HP := Lib.hid hp
        have HB := Lib.hid hb
        clear hown heach hp hb
        go_wp2_with fail
        go_ret
        first | exact ⟨Ax, la.length, cx, la, rfl, HP.out, by omega, HB.out⟩ | exact ⟨Ax, la.length, cx, rfl, ⟨la, HP.out⟩, by omega, HB.out⟩
    · skip
      obtain ⟨Ax, cx, rfl, hp⟩ := AtmsAt.of_own hown heach
      have HP := Lib.hid hp
      have HB := Lib.hid hb
      clear hown heach hp hb
      go_wp2_with fail
      go_ret
      first | exact ⟨Ax, la.length, cx, la, rfl, HP.out, by omega, HB.out⟩ | exact ⟨Ax, la.length, cx, rfl, ⟨la, HP.out⟩, by omega, HB.out⟩
end Go.Proofs.YtlbbbafehhdpnaaGreatDoor
