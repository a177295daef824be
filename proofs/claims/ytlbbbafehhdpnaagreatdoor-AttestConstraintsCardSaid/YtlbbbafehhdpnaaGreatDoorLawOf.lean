/- Contracts of attestlaw08.Of, attestlaw09.Good. -/
import Derived.Test.YtlbbbafehhdpnaaGreatDoorRegInv
import Derived.Test.YtlbbbafehhdpnaaGreatDoorLawBoth
import Derived.Test.YtlbbbafehhdpnaaGreatDoorLinMath
namespace Go.Proofs.YtlbbbafehhdpnaaGreatDoor
open Go.RowKit
set_option linter.unusedVariables false
set_option linter.unusedSimpArgs false

set_option maxRecDepth 100000 in
set_option maxHeartbeats 4000000 in
theorem lof_any (s : Bool) {w : World} {A A2 : Option Addr} {n c n2 c2 : Nat} {l m : List Nat} (h : NumU w A n c l) (h2 : NumU w A2 n2 c2 m) :
    Calls Tryz.prog 17 #[.agg #[.bool s, .slice A n c, .slice A2 n2 c2]] w fun e w' => ∃ (b : RB) (q : Rat), e = .returned (b.val (ratNeg q)) ∧ RatAt w' b q ∧ RatLe q 8 ∧ Below w.heap.size w w' := by
  unfold RB.val
  go_enter Tryz.func17, Tryz.ntmps17
  go_upto_region 1 with fail
  have hx1 := heap_alloc_new w (.cells #[.bool s, .slice A n c, .slice A2 n2 c2] 53)
  have hw1 : (w.alloc (.cells #[.bool s, .slice A n c, .slice A2 n2 c2] 53)).heap.size = w.heap.size + 1 := by simp
  have hbw := (Below.refl w.heap.size w).alloc (Nat.le_refl _) (.cells #[.bool s, .slice A n c, .slice A2 n2 c2] 53)
  obtain ⟨wk, hwk⟩ : ∃ x, x = w.alloc (.cells #[.bool s, .slice A n c, .slice A2 n2 c2] 53) := ⟨_, rfl⟩
  rw [← hwk] at hx1 hbw hw1 ⊢
  have hx2 := heap_alloc_new wk (.cells #[.bool false, .slice none 0 0, .slice none 0 0] 33)
  have hx1' := box_keep hx1 ((Below.refl _ _).alloc (Nat.le_refl _) (.cells #[.bool false, .slice none 0 0, .slice none 0 0] 33))
  have hbk := hbw.alloc hbw.size (.cells #[.bool false, .slice none 0 0, .slice none 0 0] 33)
  obtain ⟨wz, hwz⟩ : ∃ x, x = wk.alloc (.cells #[.bool false, .slice none 0 0, .slice none 0 0] 33) := ⟨_, rfl⟩
  rw [hw1] at hx2
  rw [← hwz] at hx2 hx1' hbk ⊢
  have hbo := both_any s (h.below hbk) (h2.below hbk)
  have HX2 := Lib.hid hx2
  have HBZ := Lib.hid hbk
  have HBO := Lib.hid hbo
  obtain ⟨r0, r1, r2⟩ := Box.of hx1'
  clear hwz hwk hx1 hx1' hx2 hbw hbk hbo hw1 h h2
  go_upto_region 2 with (go_at_call 30; refine HBO.out.mono ?_; rintro e w5 ⟨rb, q, z, A3, n3, c3, A4, n4, c4, rfl, hrat, hle, hb5⟩; unfold RB.val)
  have y5 := box_keep (heap_alloc_new w5 (.cells #[.bool (ratNeg q), .slice rb.A rb.n rb.c, .slice rb.A2 rb.n2 rb.c2] 33)) ((Below.refl _ _).alloc (Nat.le_refl _) (.cells #[.bool z, .slice A3 n3 c3, .slice A4 n4 c4] 85))
  have be := (hb5.alloc hb5.size (.cells #[.bool (ratNeg q), .slice rb.A rb.n rb.c, .slice rb.A2 rb.n2 rb.c2] 33)).alloc (Nat.le_trans hb5.size (by simp)) (.cells #[.bool z, .slice A3 n3 c3, .slice A4 n4 c4] 85)
  have hr5 := (hrat.alloc (.cells #[.bool (ratNeg q), .slice rb.A rb.n rb.c, .slice rb.A2 rb.n2 rb.c2] 33)).alloc (.cells #[.bool z, .slice A3 n3 c3, .slice A4 n4 c4] 85)
  obtain ⟨we, hwe⟩ : ∃ x, x = (w5.alloc (.cells #[.bool (ratNeg q), .slice rb.A rb.n rb.c, .slice rb.A2 rb.n2 rb.c2] 33)).alloc (.cells #[.bool z, .slice A3 n3 c3, .slice A4 n4 c4] 85) := ⟨_, rfl⟩
  rw [← hwe] at y5 be hr5 ⊢
  have hlt5 := Nat.lt_of_lt_of_le (lt_of_blk HX2.out) hb5.size
  have y2 := box_keep HX2.out be
  obtain ⟨x0, x1, x2⟩ := Box.of y5
  obtain ⟨r3, r4, r5⟩ := Box.of y2
  have s3' := frozen_of_blk y2 0
  have s4' := frozen_of_blk y2 1
  have s5' := frozen_of_blk y2 2
  have Y2 := Lib.hid y2
  have BE := Lib.hid be
  have HR5 := Lib.hid hr5
  clear hwe y5 be hr5 y2 hrat hb5 r0 r1 r2
  generalize w5.heap.size = g at *
  go_wp2_with fail
  refine bodyPost_ret (v := .agg #[.bool (ratNeg q), .slice rb.A rb.n rb.c, .slice rb.A2 rb.n2 rb.c2]) (by simp [results, Tryz.results17, go_sem, r3, r4, r5]) rfl ?_
  refine ⟨rb, q, rfl, HR5.out.fr (S := fun b => b = w.heap.size + 1) (w := we) ?_ ?_, hle, ?_⟩
  · repeat' (first | with_reducible exact Fr.refl _ _ | with_reducible refine fr_set ?_ ?_ | exact .inl rfl)
  · intro b i k hb e
    subst hb
    rw [cell_of_blk Y2.out i] at e
    exact no_int3 _ _ _ (by simp) (by simp) (by simp) i k e
  · have hbe := HBZ.out.trans (BE.out.mono HBZ.out.size)
    repeat' (first | with_reducible exact hbe | with_reducible refine bl_set ?_ ?_ | (show w.heap.size ≤ w.heap.size + 1; omega))
set_option maxRecDepth 100000 in
theorem good_any (A : Option Addr) (n c : Nat) (s : Bool) (A1 : Option Addr) (n1 c1 : Nat) (A2 : Option Addr) (n2 c2 : Nat) (op : Int) (w : World) :
    Calls Tryz.prog 15 #[.agg #[.slice A n c, .bool s, .slice A1 n1 c1, .slice A2 n2 c2, .int .i64 op]] w fun r w' => r = .returned (.bool (decide (1 ≤ op) && decide (op ≤ 3))) ∧ Below w.heap.size w w' := by
  have hb := (Below.refl w.heap.size w).alloc (Nat.le_refl _) (.cells #[.slice A n c, .bool s, .slice A1 n1 c1, .slice A2 n2 c2, .int .i64 op] 57)
  have HB := Lib.hid hb
  clear hb
  by_cases h1 : 1 ≤ op
  · by_cases h3 : op ≤ 3
    · rw [decide_eq_true h1, decide_eq_true h3]
      go_enter Tryz.func15, Tryz.ntmps15
      go_wp2_with fail
      go_ret
      exact ⟨rfl, HB.out⟩
    · rw [decide_eq_true h1, decide_eq_false h3]
      go_enter Tryz.func15, Tryz.ntmps15
      go_wp2_with fail
      go_ret
      exact ⟨rfl, HB.out⟩
  · rw [decide_eq_false h1]
    go_enter Tryz.func15, Tryz.ntmps15
    go_wp2_with fail
    go_ret
    exact ⟨rfl, HB.out⟩
end Go.Proofs.YtlbbbafehhdpnaaGreatDoor

namespace Go.Proofs.YtlbbbafehhdpnaaGreatDoor
open Go.RowKit
set_option linter.unusedVariables false
set_option linter.unusedSimpArgs false

/-- a number as it comes in. -/
structure NB where
  s : Bool
  A : Option Addr
  n : Nat
  c : Nat
  A2 : Option Addr
  n2 : Nat
  c2 : Nat
  l : List Nat
  m : List Nat
def NB.cells (b : NB) : List Value := [.bool b.s, .slice b.A b.n b.c, .slice b.A2 b.n2 b.c2]
def NB.ok (w : World) (b : NB) : Prop := NumU w b.A b.n b.c b.l ∧ NumU w b.A2 b.n2 b.c2 b.m
theorem NB.ok.below {w w' : World} {b : NB} (h : b.ok w) (hb : Below w.heap.size w w') : b.ok w' := ⟨h.1.below hb, h.2.below hb⟩
def nbsL (l : List NB) : List Value := l.flatMap NB.cells
theorem nbsL_cons (a : NB) (l : List NB) : nbsL (a :: l) = a.cells ++ nbsL l := List.flatMap_cons
theorem nbsL_at : ∀ (l : List NB) (k : Nat) (p : NB), l[k]? = some p → ∀ j, j < 3 → (nbsL l)[k * 3 + j]? = p.cells[j]?
  | [], k, p, h, _, _ => by simp at h
  | p' :: l, 0, p, h, j, hj => by
    simp at h
    subst h
    rw [nbsL_cons, List.getElem?_append_left (by simp [NB.cells]; omega)]
    simp
  | p' :: l, k + 1, p, h, j, hj => by
    have ih := nbsL_at l k p (by simpa using h) j hj
    have hl : p'.cells.length = 3 := rfl
    rw [nbsL_cons, List.getElem?_append_right (by omega), hl, show (k + 1) * 3 + j - 3 = k * 3 + j by omega]
    exact ih
structure NsAt (w : World) (A : Option Addr) (n c : Nat) (l : List NB) : Prop where
  rd : Rd w 3 A n (nbsL l)
  len : l.length = n
  cap : n ≤ c
  each : ∀ b ∈ l, b.ok w
theorem NsAt.below {w w' : World} {A : Option Addr} {n c : Nat} {l : List NB} (h : NsAt w A n c l) (hb : Below w.heap.size w w') : NsAt w' A n c l := ⟨h.rd.below hb, h.len, h.cap, fun b hm => (h.each b hm).below hb⟩
theorem Rd.atN {w : World} {A : Option Addr} {n : Nat} {l : List NB} (h : Rd w 3 A n (nbsL l)) (hl : l.length = n) {i : Nat} (hi : i < n) : ∃ (g off : Nat) (b : NB), A = some ⟨g, off, none⟩ ∧ l[i]? = some b ∧ w.cell? ⟨g, off + i * 3, none⟩ = some (.bool b.s) ∧ w.cell? ⟨g, off + i * 3 + 1, none⟩ = some (.slice b.A b.n b.c) ∧ w.cell? ⟨g, off + i * 3 + 2, none⟩ = some (.slice b.A2 b.n2 b.c2) := by
  obtain ⟨g, off, e, hc⟩ := h.2 (by omega)
  have hl' : i < l.length := by omega
  have key := nbsL_at l i l[i] (List.getElem?_eq_getElem hl')
  refine ⟨g, off, l[i], e, List.getElem?_eq_getElem hl', ?_, ?_, ?_⟩
  · have := hc (i * 3) _ ((key 0 (by decide)).trans rfl)
    exact this
  · have := hc (i * 3 + 1) _ ((key 1 (by decide)).trans rfl)
    rwa [← Nat.add_assoc] at this
  · have := hc (i * 3 + 2) _ ((key 2 (by decide)).trans rfl)
    rwa [← Nat.add_assoc] at this
theorem PtsAt.of_own {w : World} {B n k : Nat} {v : Value} {l : List (RB × Rat)} (h : w.ownsRow B 33 3 v n (ratsL l)) (he : ∀ p ∈ l, RatAt w p.1 p.2 ∧ RatLe p.2 k) : ∃ A c, v = .slice A n c ∧ PtsAt w A n c l k := by
  obtain ⟨A, c, rfl, hc, hr⟩ := ownsRow_form h
  refine ⟨A, c, rfl, hr, ?_, hc, he⟩
  have := h.1
  rw [ratsL_len] at this
  omega
theorem ratL_one (b : RB) (q : Rat) : ∀ u ∈ ratL b q, u.oneCell' = true := by
  intro u hu
  simp [ratL] at hu
  rcases hu with rfl | rfl | rfl <;> rfl
theorem info_ratP : (Tryz.prog.info? 33).map (fun i => (i.zero, i.size, i.bytes)) = some (some (.agg #[.bool false, .slice none 0 0, .slice none 0 0]), 3, 56) := by kernel_rfl
theorem own_typR {w : World} {B n : Nat} {v : Value} {xs : List Value} (h : w.ownsRow B 33 3 v n xs) : ∀ b, ownS v b → ∃ cs t m, w.heap[b]? = some (.cells cs t m) ∧ t ≠ 92 ∧ t ≠ 70 := by
  intro b hb
  rcases h.2 with ⟨rfl, _⟩ | ⟨g, cap, cur, rfl, _, hx, _⟩
  · simp [ownS, Value.ownBlock] at hb
  · have : g = b := by simpa [ownS, Value.ownBlock] using hb
    subst this
    exact ⟨cur, _, _, hx, by decide⟩
theorem lit3_rd (w : World) (b : RB) (q : Rat) : Rd (w.alloc (.cells #[.bool (ratNeg q), .slice b.A b.n b.c, .slice b.A2 b.n2 b.c2] 33)) 3 (some ⟨w.heap.size, 0, none⟩) 1 (ratL b q) := by
  have hown := World.ownsRow_lit (base := 0) (e := 33) (size := 3) w #[.bool (ratNeg q), .slice b.A b.n b.c, .slice b.A2 b.n2 b.c2] 1 (Nat.zero_le _) (by unfold maxLen; omega) rfl
  obtain ⟨A, c, e, _, hr⟩ := ownsRow_form hown
  injection e with e1
  subst e1
  exact hr
set_option maxRecDepth 100000 in
set_option maxHeartbeats 4000000 in
theorem point_any (A : Option Addr) (n c : Nat) (l : List NB) (w : World) (h : NsAt w A n c l) :
    Calls Tryz.prog 5 #[.slice A n c] w fun r w' => ∃ (A' : Option Addr) (n' c' : Nat) (ps : List (RB × Rat)), r = .returned (.slice A' n' c') ∧ PtsAt w' A' n' c' ps 8 ∧ n' ≤ 6 ∧ Below w.heap.size w w' := by
  have H := Lib.hid h
  obtain ⟨i0, hi, hz0, hz1, hz2⟩ := info_parts info_ratP
  clear h
  go_enter Tryz.func5, Tryz.ntmps5
  go_upto_region 2 with fail
  obtain ⟨w1, hw1⟩ : ∃ x, x = w.alloc (.cells #[] 33) := ⟨_, rfl⟩
  rw [← hw1]
  go_wp2_with fail
  go_loopw [3, 4] (fun v x wr => ∃ (i : Nat) (ps : List (RB × Rat)), i ≤ n ∧ i ≤ 6 ∧ x = .int .i64 i ∧ wr.ownsRow w.heap.size 33 3 v i (ratsL ps) ∧ ps.length = i ∧ (∀ p ∈ ps, RatAt wr p.1 p.2 ∧ RatLe p.2 8) ∧ Below w.heap.size w wr) (fun _ x _ => n - (intOf x).toNat)
  case atStart =>
    refine ⟨0, [], Nat.zero_le _, Nat.zero_le _, by first | rfl | go_num, ?_, rfl, by simp, ?_⟩
    · rw [hw1]
      have := World.ownsRow_lit (base := w.heap.size) (e := 33) (size := 3) w #[] 0 (Nat.le_refl _) (by unfold maxLen; omega) rfl
      simpa [ratsL] using this
    · rw [hw1]
      exact (Below.refl _ _).alloc (Nat.le_refl _) _
  case round =>
    obtain ⟨i, ps, hin, hi6, rfl, hown, hlen, heach, hb⟩ := hrel
    obtain ⟨w5, rfl⟩ : ∃ x, x = wr := ⟨_, rfl⟩
    by_cases hlt : i < n
    · by_cases h6 : i < 6
      · obtain ⟨g3, of3, t, ea, hti, y0, y1, y2⟩ := (H.out.below hb).rd.atN H.out.len hlt
        subst ea
        have hok := (H.out.below hb).each t (List.mem_of_getElem? hti)
        have hlo := lof_any t.s hok.1 hok.2
        have b0 : (0 : Int) ≤ (i : Int) := by omega
        have HLO := Lib.hid hlo
        have HOWN := Lib.hid hown
        have HE := Lib.hid heach
        have HB := Lib.hid hb
        clear hok hlo hown heach hb hti
        go_upto_region 4 with (first | (go_at_call 17; refine HLO.out.mono ?_; rintro e w6 ⟨b6, q6, rfl, hr6, hq6, hb6⟩; unfold RB.val; have HR6 := Lib.hid (And.intro hr6 hq6); have HB6 := Lib.hid hb6; have hown6 := own_below HOWN.out (hb6.alloc hb6.size (.cells #[.bool (ratNeg q6), .slice b6.A b6.n b6.c, .slice b6.A2 b6.n2 b6.c2] 33)); have hbel6 := HB.out.trans ((hb6.alloc hb6.size (.cells #[.bool (ratNeg q6), .slice b6.A b6.n b6.c, .slice b6.A2 b6.n2 b6.c2] 33)).mono HB.out.size); clear hr6 hq6 hb6) | (at_builtin; refine appRn w.heap.size w _ 3 33 rfl _ _ 26 rfl i0 _ 56 Tryz.underlying26 hi hz0 hz1 hz2 rfl (by decide) (by decide) _ i (ratsL ps) rfl (Nat.le_refl _) hown6 hbel6 _ 1 1 (ratL b6 q6) rfl (lit3_rd w6 b6 q6) (ratL_one b6 q6) (by omega) ?_; intro v7 w7 hown7 hbel7 hg7))
        go_wp2_with fail
        go_roundw
        case rel =>
          refine ⟨i + 1, ps ++ [(b6, q6)], by omega, by omega, by go_num, ?_, by simp [hlen], ?_, hbel7⟩
          · rw [ratsL_app]
            simpa [ratsL] using hown7
          · have hf := Fr.of_grown (S := ownS u3) hg7 (fun k hk => .inl hk)
            have hal := (Below.refl w6.heap.size w6).alloc (Nat.le_refl _) (.cells #[.bool (ratNeg q6), .slice b6.A b6.n b6.c, .slice b6.A2 b6.n2 b6.c2] 33)
            intro p hp
            rcases List.mem_append.1 hp with h1 | h1
            · exact ⟨(((HE.out p h1).1.below HB6.out).below hal).frB hf (own_typR hown6), (HE.out p h1).2⟩
            · simp at h1
              subst h1
              exact ⟨(HR6.out.1.below hal).frB hf (own_typR hown6), HR6.out.2⟩
        case measure => simp [intOf]; omega
      · have h6' : ¬ ((i : Int) < 6) := by omega
        obtain ⟨Ax, cx, rfl, hp⟩ := PtsAt.of_own hown heach
        have HP := Lib.hid hp
        have HB := Lib.hid hb
        clear hown heach hp hb
        go_wp2_with fail
        go_ret
        exact ⟨Ax, i, cx, rfl, ⟨ps, HP.out⟩, hi6, HB.out⟩
    · obtain ⟨Ax, cx, rfl, hp⟩ := PtsAt.of_own hown heach
      have HP := Lib.hid hp
      have HB := Lib.hid hb
      clear hown heach hp hb
      go_wp2_with fail
      go_ret
      first | exact ⟨Ax, i, cx, ps, rfl, HP.out, hi6, HB.out⟩ | exact ⟨Ax, i, cx, rfl, ⟨ps, HP.out⟩, hi6, HB.out⟩
end Go.Proofs.YtlbbbafehhdpnaaGreatDoor
