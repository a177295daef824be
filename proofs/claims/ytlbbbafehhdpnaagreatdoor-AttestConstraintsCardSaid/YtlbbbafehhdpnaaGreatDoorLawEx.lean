/- Expressions and constraints as they come in. -/
import Derived.Test.YtlbbbafehhdpnaaGreatDoorLawOf
import Derived.Test.YtlbbbafehhdpnaaGreatDoorRegE
import Derived.Test.YtlbbbafehhdpnaaGreatDoorLinScale
namespace Go.Proofs.YtlbbbafehhdpnaaGreatDoor
open Go.RowKit
set_option linter.unusedVariables false
set_option linter.unusedSimpArgs false

/-- a term as it comes in. -/
structure VB where
  v : Int
  b : NB
def VB.cells (t : VB) : List Value := [.int .i64 t.v, .bool t.b.s, .slice t.b.A t.b.n t.b.c, .slice t.b.A2 t.b.n2 t.b.c2]
def VB.ok (w : World) (t : VB) : Prop := t.b.ok w ∧ -9223372036854775808 ≤ t.v ∧ t.v ≤ 9223372036854775807
theorem VB.ok.below {w w' : World} {t : VB} (h : t.ok w) (hb : Below w.heap.size w w') : t.ok w' := ⟨h.1.below hb, h.2⟩
def vbsL (l : List VB) : List Value := l.flatMap VB.cells
theorem vbsL_cons (a : VB) (l : List VB) : vbsL (a :: l) = a.cells ++ vbsL l := List.flatMap_cons
theorem vbsL_at : ∀ (l : List VB) (k : Nat) (p : VB), l[k]? = some p → ∀ j, j < 4 → (vbsL l)[k * 4 + j]? = p.cells[j]?
  | [], k, p, h, _, _ => by simp at h
  | p' :: l, 0, p, h, j, hj => by
    simp at h
    subst h
    rw [vbsL_cons, List.getElem?_append_left (by simp [VB.cells]; omega)]
    simp
  | p' :: l, k + 1, p, h, j, hj => by
    have ih := vbsL_at l k p (by simpa using h) j hj
    have hl : p'.cells.length = 4 := rfl
    rw [vbsL_cons, List.getElem?_append_right (by omega), hl, show (k + 1) * 4 + j - 4 = k * 4 + j by omega]
    exact ih
structure VsAt (w : World) (A : Option Addr) (n c : Nat) (l : List VB) : Prop where
  rd : Rd w 4 A n (vbsL l)
  len : l.length = n
  cap : n ≤ c
  each : ∀ t ∈ l, t.ok w
theorem VsAt.below {w w' : World} {A : Option Addr} {n c : Nat} {l : List VB} (h : VsAt w A n c l) (hb : Below w.heap.size w w') : VsAt w' A n c l := ⟨h.rd.below hb, h.len, h.cap, fun b hm => (h.each b hm).below hb⟩
theorem Rd.atV {w : World} {A : Option Addr} {n : Nat} {l : List VB} (h : Rd w 4 A n (vbsL l)) (hl : l.length = n) {i : Nat} (hi : i < n) : ∃ (g off : Nat) (t : VB), A = some ⟨g, off, none⟩ ∧ l[i]? = some t ∧ w.cell? ⟨g, off + i * 4, none⟩ = some (.int .i64 t.v) ∧ w.cell? ⟨g, off + i * 4 + 1, none⟩ = some (.bool t.b.s) ∧ w.cell? ⟨g, off + i * 4 + 2, none⟩ = some (.slice t.b.A t.b.n t.b.c) ∧ w.cell? ⟨g, off + i * 4 + 3, none⟩ = some (.slice t.b.A2 t.b.n2 t.b.c2) := by
  obtain ⟨g, off, e, hc⟩ := h.2 (by omega)
  have hl' : i < l.length := by omega
  have key := vbsL_at l i l[i] (List.getElem?_eq_getElem hl')
  refine ⟨g, off, l[i], e, List.getElem?_eq_getElem hl', ?_, ?_, ?_, ?_⟩
  · have := hc (i * 4) _ ((key 0 (by decide)).trans rfl)
    exact this
  · have := hc (i * 4 + 1) _ ((key 1 (by decide)).trans rfl)
    rwa [← Nat.add_assoc] at this
  · have := hc (i * 4 + 2) _ ((key 2 (by decide)).trans rfl)
    rwa [← Nat.add_assoc] at this
  · have := hc (i * 4 + 3) _ ((key 3 (by decide)).trans rfl)
    rwa [← Nat.add_assoc] at this
/-- an expression stands there, of at most m terms. -/
def ExM (w : World) (m k : Nat) (r : Ending) (w' : World) : Prop :=
  ∃ (A' : Option Addr) (n' c' : Nat) (b' : RB) (l' : List TB) (q' : Rat), r = .returned (.agg #[.slice A' n' c', .bool (ratNeg q'), .slice b'.A b'.n b'.c, .slice b'.A2 b'.n2 b'.c2]) ∧ TmsAt w' A' n' c' l' k ∧ RatAt w' b' q' ∧ RatLe q' k ∧ n' ≤ m ∧ Below w.heap.size w w'
set_option maxRecDepth 100000 in
set_option maxHeartbeats 4000000 in
theorem expr_any (A : Option Addr) (n c : Nat) (l : List VB) (kb : NB) (w : World) (h : VsAt w A n c l) (hk : kb.ok w) :
    Calls Tryz.prog 29 #[.agg #[.slice A n c, .bool kb.s, .slice kb.A kb.n kb.c, .slice kb.A2 kb.n2 kb.c2]] w fun r w' => ExM w 12 8 r w' := by
  go_enter Tryz.func29, Tryz.ntmps29
  go_upto_region 1 with fail
  have hx1 := heap_alloc_new w (.cells #[.slice A n c, .bool kb.s, .slice kb.A kb.n kb.c, .slice kb.A2 kb.n2 kb.c2] 55)
  have zw1 : (w.alloc (.cells #[.slice A n c, .bool kb.s, .slice kb.A kb.n kb.c, .slice kb.A2 kb.n2 kb.c2] 55)).heap.size = w.heap.size + 1 := by simp
  have aw1 := (Below.refl w.heap.size w).alloc (Nat.le_refl _) (.cells #[.slice A n c, .bool kb.s, .slice kb.A kb.n kb.c, .slice kb.A2 kb.n2 kb.c2] 55)
  obtain ⟨w1, ew1⟩ : ∃ x, x = w.alloc (.cells #[.slice A n c, .bool kb.s, .slice kb.A kb.n kb.c, .slice kb.A2 kb.n2 kb.c2] 55) := ⟨_, rfl⟩
  rw [← ew1] at hx1 zw1 aw1 ⊢
  clear ew1
  have hx2 := heap_alloc_new w1 (.cells #[.slice none 0 0, .bool false, .slice none 0 0, .slice none 0 0] 35)
  have zw2 : (w1.alloc (.cells #[.slice none 0 0, .bool false, .slice none 0 0, .slice none 0 0] 35)).heap.size = w1.heap.size + 1 := by simp
  have aw2 := (Below.refl w1.heap.size w1).alloc (Nat.le_refl _) (.cells #[.slice none 0 0, .bool false, .slice none 0 0, .slice none 0 0] 35)
  obtain ⟨w2, ew2⟩ : ∃ x, x = w1.alloc (.cells #[.slice none 0 0, .bool false, .slice none 0 0, .slice none 0 0] 35) := ⟨_, rfl⟩
  rw [← ew2] at hx2 zw2 aw2 ⊢
  clear ew2
  rw [zw1] at hx2
  have b2 := aw1.trans (aw2.mono aw1.size)
  have hv1 := box_keep hx1 aw2
  have hz2 : w2.heap.size = w.heap.size + 1 + 1 := by rw [zw2, zw1]
  obtain ⟨x0, x1, x2, x3⟩ := box4 hv1
  have hcall := lof_any kb.s (hk.1.below b2) (hk.2.below b2)
  have HV1 := Lib.hid hv1
  have HX2 := Lib.hid hx2
  have HB2 := Lib.hid b2
  have HZ2 := Lib.hid hz2
  have H := Lib.hid h
  clear hx1 hx2 hv1 b2 aw1 aw2 zw1 zw2 hz2 h hk
  go_upto_region 2 with (go_at_call 17; refine hcall.mono ?_; clear hcall; rintro e w4 ⟨b4, q, rfl, hr4, hq4, hb4⟩; unfold RB.val)
  have hx5 := heap_alloc_new w4 (.cells #[.slice none 0 0, .bool (ratNeg q), .slice b4.A b4.n b4.c, .slice b4.A2 b4.n2 b4.c2] 35)
  have zw5 : (w4.alloc (.cells #[.slice none 0 0, .bool (ratNeg q), .slice b4.A b4.n b4.c, .slice b4.A2 b4.n2 b4.c2] 35)).heap.size = w4.heap.size + 1 := by simp
  have aw5 := (Below.refl w4.heap.size w4).alloc (Nat.le_refl _) (.cells #[.slice none 0 0, .bool (ratNeg q), .slice b4.A b4.n b4.c, .slice b4.A2 b4.n2 b4.c2] 35)
  obtain ⟨w5, ew5⟩ : ∃ x, x = w4.alloc (.cells #[.slice none 0 0, .bool (ratNeg q), .slice b4.A b4.n b4.c, .slice b4.A2 b4.n2 b4.c2] 35) := ⟨_, rfl⟩
  rw [← ew5] at hx5 zw5 aw5 ⊢
  clear ew5
  have b5 := hb4.trans (aw5.mono hb4.size)
  have hv1 := box_keep HV1.out b5
  have hv2 := box_keep HX2.out b5
  obtain ⟨go, hgo⟩ : ∃ go, go = w4.heap.size := ⟨_, rfl⟩
  rw [← hgo] at hx5 ⊢
  have hgo3 : w2.heap.size ≤ go := by rw [hgo]; exact hb4.size
  have HX5 := Lib.hid hx5
  have HV1' := Lib.hid hv1
  have HV2 := Lib.hid hv2
  have HB5 := Lib.hid (HB2.out.trans (b5.mono HB2.out.size))
  have HR5 := Lib.hid (hr4.below aw5)
  have HQ5 := Lib.hid hq4
  have HG := Lib.hid (And.intro (show w.heap.size + 1 < go by have := HZ2.out; omega) (lt_of_blk hx5))
  obtain ⟨y0, _, _, _⟩ := box4 hv1
  clear hx5 hv1 hv2 b5 hb4 hr4 hq4 aw5 zw5 hgo hgo3 x0 x1 x2 x3 HV1 HX2 HB2 HZ2
  go_wp2_with fail
  clear y0
  go_loopw [4] (fun x wr => ∃ (i : Nat) (lo : List TB) (A' : Option Addr) (c' : Nat), i ≤ n ∧ i ≤ 12 ∧ x = .int .i64 i ∧ wr.heap[go]? = some (.cells #[.slice A' lo.length c', .bool (ratNeg q), .slice b4.A b4.n b4.c, .slice b4.A2 b4.n2 b4.c2] 35 (0, 0)) ∧ COut w5 wr (.slice A' lo.length c') lo 8 ∧ lo.length = i ∧ Fr (fun kk => kk = go) w5 wr) (fun x _ => n - (intOf x).toNat)
  case atStart => exact ⟨0, [], none, 0, Nat.zero_le _, Nat.zero_le _, by first | rfl | go_num, HX5.out, ⟨World.ownsRow_nil _ _ _ _, by simp [Value.ownBlock], by simp⟩, rfl, Fr.refl _ _⟩
  case round =>
    obtain ⟨i, lo, A', c', hin, hi12, rfl, hxo, hco, hll, hf⟩ := hrel
    obtain ⟨w6, rfl⟩ : ∃ x, x = wr := ⟨_, rfl⟩
    have hg := HG.out
    have hs5 := HB5.out.size
    have hrb := (hf.block w.heap.size (by omega) (by omega)).trans HV1'.out
    obtain ⟨x0, x1, x2, x3⟩ := box4 hrb
    have HXO := Lib.hid hxo
    have HCO := Lib.hid hco
    have HLL := Lib.hid hll
    have HF := Lib.hid hf
    have HRB := Lib.hid hrb
    by_cases hlt : i < n
    · by_cases h12 : i < 12
      · obtain ⟨g3, of3, t, ea, hti, y0, y1, y2, y3⟩ := H.out.rd.atV H.out.len hlt
        subst ea
        have hg3 : g3 < w.heap.size := World.block_lt_of_cell? w _ y0
        have HOK := Lib.hid (H.out.each t (List.mem_of_getElem? hti))
        have b0 : (0 : Int) ≤ (i : Int) := by omega
        have hkeep : ∀ W', Fr (ownS (.slice A' lo.length c')) w6 W' → ∀ p : Addr, p.block < w.heap.size → W'.cell? p = w.cell? p := fun W' hW p hp => by
          have e1 := hW.cell (p := p) (Nat.lt_of_lt_of_le hp (Nat.le_trans hs5 HF.out.size)) (fun hh => by have := HCO.out.new _ hh; omega)
          have e2 := HF.out.cell (p := p) (Nat.lt_of_lt_of_le hp hs5) (by show ¬ (p.block = go); omega)
          have e3 := HB5.out.cell (p := p) hp
          exact e1.trans (e2.trans e3)
        have hcs7 : ∀ W', Fr (ownS (.slice A' lo.length c')) w6 W' → (W'.cell? ⟨go, 0, none⟩ = some (.slice A' lo.length c')) ∧ (W'.cell? ⟨w.heap.size, 0, none⟩ = some (.slice (some ⟨g3, of3, none⟩) n c)) ∧ W'.cell? ⟨g3, of3 + i * 4, none⟩ = some (.int .i64 t.v) ∧ W'.cell? ⟨g3, of3 + i * 4 + 1, none⟩ = some (.bool t.b.s) ∧ W'.cell? ⟨g3, of3 + i * 4 + 2, none⟩ = some (.slice t.b.A t.b.n t.b.c) ∧ W'.cell? ⟨g3, of3 + i * 4 + 3, none⟩ = some (.slice t.b.A2 t.b.n2 t.b.c2) := fun W' hW => by
          have hk := hkeep W' hW
          have e1 := (hW.block go (lt_of_blk hxo) (fun hh => own_type hco.own hxo (by decide) hh)).trans hxo
          have e2 := (hW.block w.heap.size (lt_of_blk hrb) (fun hh => by have := hco.new _ hh; omega)).trans hrb
          exact ⟨cell_of_blk e1 0, cell_of_blk e2 0, (hk _ hg3).trans y0, (hk _ hg3).trans y1, (hk _ hg3).trans y2, (hk _ hg3).trans y3⟩
        have HCS7 := Lib.hid hcs7
        clear hcs7 hkeep y0 y1 y2 y3 x1 x2 x3 hxo hco hll hf hrb
        go_upto_region 5 with fail
        have hB6 : Below w.heap.size w w6 := HB5.out.trans (HF.out.below HB5.out.size (fun b hb => by omega))
        have hlo := fun W (hb : Below w6.heap.size w6 W) => lof_any t.b.s ((HOK.out.1.1.below hB6).below hb) ((HOK.out.1.2.below hB6).below hb)
        have HLO := Lib.hid hlo
        have hS := HCS7.out w6.drew (Fr.refl _ _).drew
        obtain ⟨i0, hi, hz0, hz1, hz2⟩ := info_parts info_term
        clear hlo hB6 x0
        refine wp_region_E 19 (fun W' => (W'.cell? ⟨go, 0, none⟩ = some (.slice A' lo.length c')) ∧ (W'.cell? ⟨w.heap.size, 0, none⟩ = some (.slice (some ⟨g3, of3, none⟩) n c)) ∧ W'.cell? ⟨g3, of3 + i * 4, none⟩ = some (.int .i64 t.v) ∧ W'.cell? ⟨g3, of3 + i * 4 + 1, none⟩ = some (.bool t.b.s) ∧ W'.cell? ⟨g3, of3 + i * 4 + 2, none⟩ = some (.slice t.b.A t.b.n t.b.c) ∧ W'.cell? ⟨g3, of3 + i * 4 + 3, none⟩ = some (.slice t.b.A2 t.b.n2 t.b.c2)) (by kernel_rfl) ?_
        refine wpAnyE_take (i := 0) (v := ?_) (by kernel_rfl) rfl (by kernel_rfl) (by kernel_rfl) (by kernel_rfl) (fun _ _ _ h => h) (by rfl) ?hy0 hS ?rest0
        case hy0 => (intro w hSw; (try dsimp only at hSw); go_simp <;> with_reducible rfl)
        case rest0 =>
        simp only [Act.put, List.setIfInBounds_toArray, List.set_cons_zero, List.set_cons_succ]
        refine wpAnyE_take (i := 1) (v := ?_) (by kernel_rfl) rfl (by kernel_rfl) (by kernel_rfl) (by kernel_rfl) (fun _ _ _ h => h) (by rfl) ?hy1 hS ?rest1
        case hy1 => (intro w hSw; (try dsimp only at hSw); go_simp <;> with_reducible rfl)
        case rest1 =>
        simp only [Act.put, List.setIfInBounds_toArray, List.set_cons_zero, List.set_cons_succ]
        refine wpAnyE_take (i := 2) (v := ?_) (by kernel_rfl) rfl (by kernel_rfl) (by kernel_rfl) (by kernel_rfl) (fun _ _ _ h => h) (by rfl) ?hy2 hS ?rest2
        case hy2 => (intro w hSw; (try dsimp only at hSw); go_simp <;> with_reducible rfl)
        case rest2 =>
        simp only [Act.put, List.setIfInBounds_toArray, List.set_cons_zero, List.set_cons_succ]
        refine wpAnyE_take (i := 3) (v := ?_) (by kernel_rfl) rfl (by kernel_rfl) (by kernel_rfl) (by kernel_rfl) (fun _ _ _ h => h) (by rfl) ?hy3 hS ?rest3
        case hy3 => (intro w hSw; (try dsimp only at hSw); go_simp <;> with_reducible rfl)
        case rest3 =>
        simp only [Act.put, List.setIfInBounds_toArray, List.set_cons_zero, List.set_cons_succ]
        refine wpAnyE_take (i := 4) (v := ?_) (by kernel_rfl) rfl (by kernel_rfl) (by kernel_rfl) (by kernel_rfl) (fun _ _ _ h => h) (by rfl) ?hy4 hS ?rest4
        case hy4 => (intro w hSw; (try dsimp only at hSw); go_simp <;> with_reducible rfl)
        case rest4 =>
        simp only [Act.put, List.setIfInBounds_toArray, List.set_cons_zero, List.set_cons_succ]
        refine wpAnyE_take (i := 5) (v := ?_) (by kernel_rfl) rfl (by kernel_rfl) (by kernel_rfl) (by kernel_rfl) (fun _ _ _ h => h) (by rfl) ?hy5 hS ?rest5
        case hy5 => (intro w hSw; (try dsimp only at hSw); go_simp <;> with_reducible rfl)
        case rest5 =>
        simp only [Act.put, List.setIfInBounds_toArray, List.set_cons_zero, List.set_cons_succ]
        refine wpAnyE_take (i := 6) (v := ?_) (by kernel_rfl) rfl (by kernel_rfl) (by kernel_rfl) (by kernel_rfl) (fun _ _ _ h => h) (by rfl) ?hy6 hS ?rest6
        case hy6 => (intro w hSw; (try dsimp only at hSw); go_simp <;> with_reducible rfl)
        case rest6 =>
        simp only [Act.put, List.setIfInBounds_toArray, List.set_cons_zero, List.set_cons_succ]
        refine wpAnyE_take (i := 7) (v := ?_) (by kernel_rfl) rfl (by kernel_rfl) (by kernel_rfl) (by kernel_rfl) (fun _ _ _ h => h) (by rfl) ?hy7 hS ?rest7
        case hy7 => (intro w hSw; (try dsimp only at hSw); go_simp <;> with_reducible rfl)
        case rest7 =>
        simp only [Act.put, List.setIfInBounds_toArray, List.set_cons_zero, List.set_cons_succ]
        refine wpAnyE_take (i := 8) (v := ?_) (by kernel_rfl) rfl (by kernel_rfl) (by kernel_rfl) (by kernel_rfl) (fun _ _ _ h => h) (by rfl) ?hy8 hS ?rest8
        case hy8 => (intro w hSw; (try dsimp only at hSw); go_simp <;> with_reducible rfl)
        case rest8 =>
        simp only [Act.put, List.setIfInBounds_toArray, List.set_cons_zero, List.set_cons_succ]
        refine wpAnyE_take (i := 9) (v := ?_) (by kernel_rfl) rfl (by kernel_rfl) (by kernel_rfl) (by kernel_rfl) (fun _ _ _ h => h) (by rfl) ?hy9 hS ?rest9
        case hy9 => (intro w hSw; (try dsimp only at hSw); go_simp <;> with_reducible rfl)
        case rest9 =>
        simp only [Act.put, List.setIfInBounds_toArray, List.set_cons_zero, List.set_cons_succ]
        refine wpAnyE_take (i := 10) (v := ?_) (by kernel_rfl) rfl (by kernel_rfl) (by kernel_rfl) (by kernel_rfl) (fun _ _ _ h => h) (by rfl) ?hy10 hS ?rest10
        case hy10 => (intro w hSw; (try dsimp only at hSw); go_simp <;> with_reducible rfl)
        case rest10 =>
        simp only [Act.put, List.setIfInBounds_toArray, List.set_cons_zero, List.set_cons_succ]
        refine wpAnyE_take (i := 11) (v := ?_) (by kernel_rfl) rfl (by kernel_rfl) (by kernel_rfl) (by kernel_rfl) (fun _ _ _ h => h) (by rfl) ?hy11 hS ?rest11
        case hy11 => (intro w hSw; (try dsimp only at hSw); go_simp <;> with_reducible rfl)
        case rest11 =>
        simp only [Act.put, List.setIfInBounds_toArray, List.set_cons_zero, List.set_cons_succ]
        refine wpAnyE_take (i := 12) (v := ?_) (by kernel_rfl) rfl (by kernel_rfl) (by kernel_rfl) (by kernel_rfl) (fun _ _ _ h => h) (by rfl) ?hy12 hS ?rest12
        case hy12 => (intro w hSw; (try dsimp only at hSw); go_simp <;> with_reducible rfl)
        case rest12 =>
        simp only [Act.put, List.setIfInBounds_toArray, List.set_cons_zero, List.set_cons_succ]
        refine wpAnyE_take (i := 13) (v := ?_) (by kernel_rfl) rfl (by kernel_rfl) (by kernel_rfl) (by kernel_rfl) (fun _ _ _ h => h) (by rfl) ?hy13 hS ?rest13
        case hy13 => (intro w hSw; (try dsimp only at hSw); go_simp <;> with_reducible rfl)
        case rest13 =>
        simp only [Act.put, List.setIfInBounds_toArray, List.set_cons_zero, List.set_cons_succ]
        refine wpAnyE_one (i := 14) (by kernel_rfl) rfl (fun KK hKK => ?_)
        have HKK14 := Lib.hid hKK
        clear hKK
        go_simp
        go_at_call 17
        refine (HLO.out _ (below_drew2 (Below.refl _ _))).mono ?_
        rintro e w8 ⟨b8, q8, rfl, hr8, hq8, hb8⟩
        unfold RB.val
        have c8 : Below w6.heap.size w6 w8 := (below_drew2 (Below.refl _ _)).trans (hb8.mono (Nat.le_refl _))
        have hS8 := HCS7.out w8 (Fr.of_below c8)
        have HR8 := Lib.hid (And.intro hr8 hq8)
        clear hr8 hq8 hb8 hS
        refine HKK14.out _ _ (.inr hS8) ?_
        clear HKK14
        try simp only [Act.put, List.setIfInBounds_toArray, List.set_cons_zero, List.set_cons_succ]
        refine wpAnyE_take (i := 15) (v := ?_) (by kernel_rfl) rfl (by kernel_rfl) (by kernel_rfl) (by kernel_rfl) (fun _ _ _ h => h) (by rfl) ?hy15 hS8 ?rest15
        case hy15 => (intro w hSw; (try dsimp only at hSw); go_simp <;> with_reducible rfl)
        case rest15 =>
        simp only [Act.put, List.setIfInBounds_toArray, List.set_cons_zero, List.set_cons_succ]
        refine wpAnyE_one (i := 16) (by kernel_rfl) rfl (fun KK hKK => ?_)
        have HKK16 := Lib.hid hKK
        clear hKK
        go_simp
        have c8a := c8.alloc c8.size (.cells #[.int .i64 t.v, .bool (ratNeg q8), .slice b8.A b8.n b8.c, .slice b8.A2 b8.n2 b8.c2] 70)
        have hS9 := HCS7.out _ (Fr.of_below c8a)
        refine HKK16.out _ _ (.inr hS9) ?_
        clear HKK16
        try simp only [Act.put, List.setIfInBounds_toArray, List.set_cons_zero, List.set_cons_succ]
        refine wpAnyE_one (i := 17) (by kernel_rfl) rfl (fun KK hKK => ?_)
        have HKK17 := Lib.hid hKK
        clear hKK
        have hco8 := HCO.out.below c8
        refine stepS w8 4 #[.int .i64 t.v, .bool (ratNeg q8), .slice b8.A b8.n b8.c, .slice b8.A2 b8.n2 b8.c2] 70 rfl (.tmp 21) (.tmp 36) 30 rfl i0 _ 64 Tryz.underlying30 hi hz0 hz1 hz2 rfl (by decide) (by decide) rfl (.slice A' lo.length c') lo.length (tmsL lo) rfl hco8.own rfl (tmL_one (b8, (t.v, q8))) (by have := HLL.out; omega) ?_
        intro v9 w9 ho9 hf9 hk9
        have hok : TOk w8 8 (b8, (t.v, q8)) := ⟨HR8.out.1, HR8.out.2, HOK.out.2⟩
        have hw58 : w5.heap.size ≤ w8.heap.size := by
          have h1 := HF.out.size
          have h2 := c8.size
          omega
        have hco9 := hco8.app hw58 hok ho9 hf9 hk9
        obtain ⟨A9, c9, rfl, _⟩ := ownsRow_form hco9.own
        rw [List.length_append, List.length_singleton] at hco9 hk9 ⊢
        have hf89 := (Fr.of_below (S := ownS (.slice A' lo.length c')) c8).trans hf9 (fun b hb => .inl hb)
        have hS10 := HCS7.out w9 hf89
        refine HKK17.out _ _ (.inr hS10) ?_
        clear HKK17
        try simp only [Act.put, List.setIfInBounds_toArray, List.set_cons_zero, List.set_cons_succ]
        refine wpAnyE_take (i := 18) (v := ?_) (by kernel_rfl) rfl (by kernel_rfl) (by kernel_rfl) (by kernel_rfl) (fun _ _ _ h => h) (by rfl) ?hy18 hS10 ?rest18
        case hy18 => (intro w hSw; (try dsimp only at hSw); go_simp <;> with_reducible rfl)
        case rest18 =>
        simp only [Act.put, List.setIfInBounds_toArray, List.set_cons_zero, List.set_cons_succ]
        refine wpAnyE_one (i := 19) (by kernel_rfl) rfl (fun KK hKK => ?_)
        have HKK19 := Lib.hid hKK
        clear hKK
        have hx9 := (hf89.block go (lt_of_blk HXO.out) (fun hh => own_type HCO.out.own HXO.out (by decide) hh)).trans HXO.out
        obtain ⟨p0, p1, p2, p3⟩ := box4 hx9
        have z0 := frozen_of_blk hx9 0
        have HX9 := Lib.hid hx9
        have HCO9 := Lib.hid hco9
        have hfr9 : Fr (fun kk => kk = go) w5 w9 := (HF.out.trans (Fr.of_below (S := fun kk => kk = go) c8) (fun b hb => .inl hb)).trans hf9 (fun b hb => .inr (HCO.out.new b hb))
        have HF9 := Lib.hid hfr9
        clear hx9 hco9 hco8 hf9 hf89 ho9 hk9 hS10 hS9 hS8 hok hw58 c8a hfr9
        go_simp
        refine HKK19.out _ _ (.inl rfl) ?_
        clear HKK19
        refine wpAnyE_done (by kernel_rfl) ?_ _
        go_wp2_with fail
        go_roundw
        case rel =>
          refine ⟨i + 1, lo ++ [(b8, (t.v, q8))], A9, c9, by omega, by omega, by go_num, ?_, ?_, by rw [List.length_append, List.length_singleton, HLL.out], fr_set HF9.out (.inl rfl)⟩
          · rw [List.length_append, List.length_singleton]
            exact set_blk HX9.out 0 _
          · rw [List.length_append, List.length_singleton]
            exact HCO9.out.frE (fr_set (Fr.refl _ _) (.inl rfl)) HX9.out (by decide)
        case measure => simp [intOf]; omega
      · have h12' : ¬ ((i : Int) < 12) := by omega
        obtain ⟨Ax, cx, ex, htx⟩ := TmsAt.of_own HCO.out.own HCO.out.each
        injection ex with e1 _ e3
        subst e1; subst e3
        have hx3 := (HF.out.block (w.heap.size + 1) (by omega) (by omega)).trans HV2.out
        obtain ⟨y0, y1, y2, y3⟩ := box4 HXO.out
        obtain ⟨p0, p1, p2, p3⟩ := box4 hx3
        have z0 := frozen_of_blk hx3 0
        have z1 := frozen_of_blk hx3 1
        have z2 := frozen_of_blk hx3 2
        have z3 := frozen_of_blk hx3 3
        have hr6 := HR5.out.frB HF.out (typ_of HX5.out (by decide))
        have hB6 : Below w.heap.size w w6 := HB5.out.trans (HF.out.below HB5.out.size (fun b hb => by omega))
        have HX3 := Lib.hid hx3
        have HT := Lib.hid htx
        have HR6 := Lib.hid hr6
        have HB6 := Lib.hid hB6
        clear hx3 htx hr6 hB6 x1 x2 x3 hxo hco hll hf hrb
        go_wp2_with fail
        refine bodyPost_ret (v := .agg #[.slice A' lo.length c', .bool (ratNeg q), .slice b4.A b4.n b4.c, .slice b4.A2 b4.n2 b4.c2]) (by simp [results, Tryz.results29, go_sem, p0, p1, p2, p3]) rfl ?_
        have hfr := store4_fr w6 (w.heap.size + 1) A' lo.length c' (ratNeg q) b4
        have hty := typ_of HX3.out (by decide)
        exact ⟨A', lo.length, c', b4, lo, q, rfl, HT.out.fr hfr hty, HR6.out.frB hfr hty, HQ5.out, by have := HLL.out; omega, store4_bel HB6.out (by omega) _ _ _ _ _⟩
    · have h12' : ¬ (i < n) := hlt
      obtain ⟨Ax, cx, ex, htx⟩ := TmsAt.of_own HCO.out.own HCO.out.each
      injection ex with e1 _ e3
      subst e1; subst e3
      have hx3 := (HF.out.block (w.heap.size + 1) (by omega) (by omega)).trans HV2.out
      obtain ⟨y0, y1, y2, y3⟩ := box4 HXO.out
      obtain ⟨p0, p1, p2, p3⟩ := box4 hx3
      have z0 := frozen_of_blk hx3 0
      have z1 := frozen_of_blk hx3 1
      have z2 := frozen_of_blk hx3 2
      have z3 := frozen_of_blk hx3 3
      have hr6 := HR5.out.frB HF.out (typ_of HX5.out (by decide))
      have hB6 : Below w.heap.size w w6 := HB5.out.trans (HF.out.below HB5.out.size (fun b hb => by omega))
      have HX3 := Lib.hid hx3
      have HT := Lib.hid htx
      have HR6 := Lib.hid hr6
      have HB6 := Lib.hid hB6
      clear hx3 htx hr6 hB6 x1 x2 x3 hxo hco hll hf hrb
      go_wp2_with fail
      refine bodyPost_ret (v := .agg #[.slice A' lo.length c', .bool (ratNeg q), .slice b4.A b4.n b4.c, .slice b4.A2 b4.n2 b4.c2]) (by simp [results, Tryz.results29, go_sem, p0, p1, p2, p3]) rfl ?_
      have hfr := store4_fr w6 (w.heap.size + 1) A' lo.length c' (ratNeg q) b4
      have hty := typ_of HX3.out (by decide)
      exact ⟨A', lo.length, c', b4, lo, q, rfl, HT.out.fr hfr hty, HR6.out.frB hfr hty, HQ5.out, by have := HLL.out; omega, store4_bel HB6.out (by omega) _ _ _ _ _⟩
end Go.Proofs.YtlbbbafehhdpnaaGreatDoor
