/- Boxes that hold rational numbers; what lies there behind a store. -/
import Derived.Test.YtlbbbafehhdpnaaGreatDoorLawBoth
namespace Go.Proofs.YtlbbbafehhdpnaaGreatDoor
open Go.RowKit
set_option linter.unusedVariables false
set_option linter.unusedSimpArgs false

def Box3 (w : World) (g : Nat) (b : RB) (q : Rat) : Prop := w.heap[g]? = some (.cells #[.bool (ratNeg q), .slice b.A b.n b.c, .slice b.A2 b.n2 b.c2] 33 (0, 0))
/-- a box of a rational number, whatever it holds. -/
def Blk3 (w : World) (g : Nat) : Prop := ∃ (s : Bool) (A : Option Addr) (n c : Nat) (A2 : Option Addr) (n2 c2 : Nat), w.heap[g]? = some (.cells #[.bool s, .slice A n c, .slice A2 n2 c2] 33 (0, 0))
theorem Box3.blk {w : World} {g : Nat} {b : RB} {q : Rat} (h : Box3 w g b q) : Blk3 w g := ⟨_, _, _, _, _, _, _, h⟩
theorem Box3.below {w w' : World} {g : Nat} {b : RB} {q : Rat} (h : Box3 w g b q) (hb : Below w.heap.size w w') : Box3 w' g b q := box_keep h hb
theorem Blk3.below {w w' : World} {g : Nat} (h : Blk3 w g) (hb : Below w.heap.size w w') : Blk3 w' g := by
  obtain ⟨s, A, n, c, A2, n2, c2, h⟩ := h
  exact ⟨s, A, n, c, A2, n2, c2, box_keep h hb⟩
theorem Blk3.lt {w : World} {g : Nat} (h : Blk3 w g) : g < w.heap.size := by
  obtain ⟨s, A, n, c, A2, n2, c2, h⟩ := h
  exact lt_of_blk h
/-- a store of a whole rational number into a box. -/
def store3 (w : World) (g : Nat) (s : Bool) (b : RB) : World := ((w.setCell ⟨g, 0, none⟩ (.bool s)).setCell ⟨g, 1, none⟩ (.slice b.A b.n b.c)).setCell ⟨g, 2, none⟩ (.slice b.A2 b.n2 b.c2)
theorem store3_fr (w : World) (g : Nat) (s : Bool) (b : RB) : Fr (fun k => k = g) w (store3 w g s b) := fr_set (fr_set (fr_set (Fr.refl _ _) (.inl rfl)) (.inl rfl)) (.inl rfl)
theorem store3_size (w : World) (g : Nat) (s : Bool) (b : RB) : (store3 w g s b).heap.size = w.heap.size := by simp [store3, World.setCell]
theorem store3_bel {w0 w : World} {g B : Nat} (h : Below B w0 w) (hg : B ≤ g) (s : Bool) (b : RB) : Below B w0 (store3 w g s b) := bl_set (bl_set (bl_set h hg) hg) hg
theorem store3_box {w : World} {g : Nat} (h : Blk3 w g) (b : RB) (q : Rat) : Box3 (store3 w g (ratNeg q) b) g b q := by
  obtain ⟨s, A, n, c, A2, n2, c2, h⟩ := h
  exact set_blk (set_blk (set_blk h 0 _) 1 _) 2 _
theorem Blk3.no {w : World} {g : Nat} (h : Blk3 w g) : ∀ b i k, b = g → w.cell? ⟨b, i, none⟩ ≠ some (.int .u32 k) := by
  obtain ⟨s, A, n, c, A2, n2, c2, h⟩ := h
  intro b i k hb e
  subst hb
  rw [cell_of_blk h i] at e
  exact no_int3 _ _ _ (by simp) (by simp) (by simp) i k e
theorem store3_rat {w : World} {g : Nat} (h : Blk3 w g) {b : RB} {q : Rat} (hr : RatAt w b q) (s' : Bool) (b' : RB) : RatAt (store3 w g s' b') b q := hr.fr (store3_fr w g s' b') h.no
theorem store3_far {w : World} {g g' : Nat} (hne : g' ≠ g) (s : Bool) (b : RB) : (store3 w g s b).heap[g']? = w.heap[g']? := by
  unfold store3
  rw [set_far (by exact hne), set_far (by exact hne), set_far (by exact hne)]
theorem store3_blk {w : World} {g g' : Nat} (h : Blk3 w g) (h' : Blk3 w g') (s : Bool) (b : RB) : Blk3 (store3 w g s b) g' := by
  by_cases hne : g' = g
  · subst hne
    obtain ⟨s0, A, n, c, A2, n2, c2, h⟩ := h
    exact ⟨_, _, _, _, _, _, _, set_blk (set_blk (set_blk h 0 _) 1 _) 2 _⟩
  · obtain ⟨s0, A, n, c, A2, n2, c2, h'⟩ := h'
    exact ⟨s0, A, n, c, A2, n2, c2, (store3_far hne s b).trans h'⟩

/-- the value is a number's, as it lies in the world. -/
def RatV (w : World) (v : Value) (k : Nat) : Prop := ∃ (b : RB) (q : Rat), v = .agg #[.bool (ratNeg q), .slice b.A b.n b.c, .slice b.A2 b.n2 b.c2] ∧ RatAt w b q ∧ RatLe q k
theorem RatV.below {w w' : World} {v : Value} {k : Nat} (h : RatV w v k) (hb : Below w.heap.size w w') : RatV w' v k := by
  obtain ⟨b, q, e, hr, hl⟩ := h
  exact ⟨b, q, e, hr.below hb, hl⟩
theorem RatV.store {w : World} {v : Value} {k g : Nat} (hB : Blk3 w g) (h : RatV w v k) (s : Bool) (b' : RB) : RatV (store3 w g s b') v k := by
  obtain ⟨b, q, e, hr, hl⟩ := h
  exact ⟨b, q, e, store3_rat hB hr s b', hl⟩
/-- a box with a number of its own. -/
def BoxV (w : World) (B : Nat) (v : Value) (k : Nat) : Prop := ∃ (g : Nat) (b : RB) (q : Rat), v = .pointer (some ⟨g, 0, none⟩) ∧ B ≤ g ∧ Box3 w g b q ∧ RatAt w b q ∧ RatLe q k
theorem BoxV.below {w w' : World} {B : Nat} {v : Value} {k : Nat} (h : BoxV w B v k) (hb : Below w.heap.size w w') : BoxV w' B v k := by
  obtain ⟨g, b, q, e, hg, hx, hr, hl⟩ := h
  exact ⟨g, b, q, e, hg, hx.below hb, hr.below hb, hl⟩
theorem BoxV.store {w : World} {B : Nat} {v : Value} {k g : Nat} (hB : Blk3 w g) (h : BoxV w B v k) (hne : v ≠ .pointer (some ⟨g, 0, none⟩)) (s : Bool) (b' : RB) : BoxV (store3 w g s b') B v k := by
  obtain ⟨g', b, q, e, hg, hx, hr, hl⟩ := h
  subst e
  refine ⟨g', b, q, rfl, hg, ?_, store3_rat hB hr s b', hl⟩
  refine (store3_far ?_ s b').trans hx
  rintro rfl
  exact hne rfl
def NewV (w : World) (B : Nat) (v : Value) : Prop := ∃ g, v = .pointer (some ⟨g, 0, none⟩) ∧ B ≤ g ∧ Blk3 w g
theorem NewV.below {w w' : World} {B : Nat} {v : Value} (h : NewV w B v) (hb : Below w.heap.size w w') : NewV w' B v := by
  obtain ⟨g, e, hg, hx⟩ := h
  exact ⟨g, e, hg, hx.below hb⟩
theorem NewV.store {w : World} {B : Nat} {v : Value} {g : Nat} (hB : Blk3 w g) (h : NewV w B v) (s : Bool) (b' : RB) : NewV (store3 w g s b') B v := by
  obtain ⟨g', e, hg, hx⟩ := h
  exact ⟨g', e, hg, store3_blk hB hx s b'⟩
theorem newV_alloc (w : World) (B : Nat) (hB : B ≤ w.heap.size) : NewV (w.alloc (.cells #[.bool false, .slice none 0 0, .slice none 0 0] 33)) B (.pointer (some ⟨w.heap.size, 0, none⟩)) := ⟨_, rfl, hB, _, _, _, _, _, _, _, heap_alloc_new w _⟩

/-- 'x, y := f(..), g(..)' of two numbers, in whatever order: loads 0 (slot s0) and 2 (s2), calls 1 (s1) and 3 (s3), boxes 4 (p) and 5 (q), stores 6 and 7. -/
structure Two (w0 : World) (va vb : Value) (s0 s1 s2 s3 p q k : Nat) (D : Nat → Bool) (f : Nat → Value) (w : World) : Prop where
  bel : Below w0.heap.size w0 w
  l0 : D 0 = true → f s0 = va
  c1 : D 1 = true → RatV w (f s1) k
  l2 : D 2 = true → f s2 = vb
  c3 : D 3 = true → RatV w (f s3) k
  a4 : D 4 = true → NewV w w0.heap.size (f p)
  a5 : D 5 = true → NewV w w0.heap.size (f q)
  b6 : D 6 = true → D 4 = true ∧ BoxV w w0.heap.size (f p) k
  b7 : D 7 = true → D 5 = true ∧ BoxV w w0.heap.size (f q) k
  ne : D 4 = true → D 5 = true → f p ≠ f q

section
variable {w0 w w' : World} {va vb : Value} {s0 s1 s2 s3 p q k : Nat} {D : Nat → Bool} {f : Nat → Value}
def upd (f : Nat → Value) (s : Nat) (v : Value) : Nat → Value := fun j => if j = s then v else f j
theorem upd_self (f : Nat → Value) (s : Nat) (v : Value) : upd f s v s = v := if_pos rfl
theorem upd_ne (f : Nat → Value) {s j : Nat} (v : Value) (h : j ≠ s) : upd f s v j = f j := if_neg h
theorem Two.below (h : Two w0 va vb s0 s1 s2 s3 p q k D f w) (hb : Below w.heap.size w w') : Two w0 va vb s0 s1 s2 s3 p q k D f w' :=
  ⟨h.bel.trans (hb.mono h.bel.size), h.l0, fun d => (h.c1 d).below hb, h.l2, fun d => (h.c3 d).below hb, fun d => (h.a4 d).below hb, fun d => (h.a5 d).below hb, fun d => ⟨(h.b6 d).1, (h.b6 d).2.below hb⟩, fun d => ⟨(h.b7 d).1, (h.b7 d).2.below hb⟩, h.ne⟩
theorem two_start (f : Nat → Value) (w : World) : Two w va vb s0 s1 s2 s3 p q k (fun _ => false) f w.drew :=
  ⟨below_drew2 (Below.refl _ _), nofun, nofun, nofun, nofun, nofun, nofun, nofun, nofun, nofun⟩
theorem dn {D : Nat → Bool} {i j : Nat} (h : i ≠ j) : ((fun m => m == j || D m) i = true) → D i = true := by
  intro e
  simp only [Bool.or_eq_true, beq_iff_eq] at e
  exact e.resolve_left h
theorem Two.set0 (h : Two w0 va vb s0 s1 s2 s3 p q k D f w) (hn : [s0, s1, s2, s3, p, q].Nodup) : Two w0 va vb s0 s1 s2 s3 p q k (fun m => m == 0 || D m) (upd f s0 va) w := by
  simp at hn
  have e1 := upd_ne (s := s0) (j := s1) f va (by omega)
  have e2 := upd_ne (s := s0) (j := s2) f va (by omega)
  have e3 := upd_ne (s := s0) (j := s3) f va (by omega)
  have e4 := upd_ne (s := s0) (j := p) f va (by omega)
  have e5 := upd_ne (s := s0) (j := q) f va (by omega)
  exact ⟨h.bel, fun _ => upd_self _ _ _, fun d => by rw [e1]; exact h.c1 (dn (by decide) d), fun d => by rw [e2]; exact h.l2 (dn (by decide) d), fun d => by rw [e3]; exact h.c3 (dn (by decide) d), fun d => by rw [e4]; exact h.a4 (dn (by decide) d), fun d => by rw [e5]; exact h.a5 (dn (by decide) d), fun d => by rw [e4]; exact ⟨by simp [(h.b6 (dn (by decide) d)).1], (h.b6 (dn (by decide) d)).2⟩, fun d => by rw [e5]; exact ⟨by simp [(h.b7 (dn (by decide) d)).1], (h.b7 (dn (by decide) d)).2⟩, fun d d' => by rw [e4, e5]; exact h.ne (dn (by decide) d) (dn (by decide) d')⟩
theorem Two.set2 (h : Two w0 va vb s0 s1 s2 s3 p q k D f w) (hn : [s0, s1, s2, s3, p, q].Nodup) : Two w0 va vb s0 s1 s2 s3 p q k (fun m => m == 2 || D m) (upd f s2 vb) w := by
  simp at hn
  have e0 := upd_ne (s := s2) (j := s0) f vb (by omega)
  have e1 := upd_ne (s := s2) (j := s1) f vb (by omega)
  have e3 := upd_ne (s := s2) (j := s3) f vb (by omega)
  have e4 := upd_ne (s := s2) (j := p) f vb (by omega)
  have e5 := upd_ne (s := s2) (j := q) f vb (by omega)
  exact ⟨h.bel, fun d => by rw [e0]; exact h.l0 (dn (by decide) d), fun d => by rw [e1]; exact h.c1 (dn (by decide) d), fun _ => upd_self _ _ _, fun d => by rw [e3]; exact h.c3 (dn (by decide) d), fun d => by rw [e4]; exact h.a4 (dn (by decide) d), fun d => by rw [e5]; exact h.a5 (dn (by decide) d), fun d => by rw [e4]; exact ⟨by simp [(h.b6 (dn (by decide) d)).1], (h.b6 (dn (by decide) d)).2⟩, fun d => by rw [e5]; exact ⟨by simp [(h.b7 (dn (by decide) d)).1], (h.b7 (dn (by decide) d)).2⟩, fun d d' => by rw [e4, e5]; exact h.ne (dn (by decide) d) (dn (by decide) d')⟩
theorem Two.set1 (h : Two w0 va vb s0 s1 s2 s3 p q k D f w) (hn : [s0, s1, s2, s3, p, q].Nodup) (v : Value) (hv : RatV w v k) : Two w0 va vb s0 s1 s2 s3 p q k (fun m => m == 1 || D m) (upd f s1 v) w := by
  simp at hn
  have e0 := upd_ne (s := s1) (j := s0) f v (by omega)
  have e2 := upd_ne (s := s1) (j := s2) f v (by omega)
  have e3 := upd_ne (s := s1) (j := s3) f v (by omega)
  have e4 := upd_ne (s := s1) (j := p) f v (by omega)
  have e5 := upd_ne (s := s1) (j := q) f v (by omega)
  exact ⟨h.bel, fun d => by rw [e0]; exact h.l0 (dn (by decide) d), fun _ => by rw [upd_self]; exact hv, fun d => by rw [e2]; exact h.l2 (dn (by decide) d), fun d => by rw [e3]; exact h.c3 (dn (by decide) d), fun d => by rw [e4]; exact h.a4 (dn (by decide) d), fun d => by rw [e5]; exact h.a5 (dn (by decide) d), fun d => by rw [e4]; exact ⟨by simp [(h.b6 (dn (by decide) d)).1], (h.b6 (dn (by decide) d)).2⟩, fun d => by rw [e5]; exact ⟨by simp [(h.b7 (dn (by decide) d)).1], (h.b7 (dn (by decide) d)).2⟩, fun d d' => by rw [e4, e5]; exact h.ne (dn (by decide) d) (dn (by decide) d')⟩
theorem Two.set3 (h : Two w0 va vb s0 s1 s2 s3 p q k D f w) (hn : [s0, s1, s2, s3, p, q].Nodup) (v : Value) (hv : RatV w v k) : Two w0 va vb s0 s1 s2 s3 p q k (fun m => m == 3 || D m) (upd f s3 v) w := by
  simp at hn
  have e0 := upd_ne (s := s3) (j := s0) f v (by omega)
  have e1 := upd_ne (s := s3) (j := s1) f v (by omega)
  have e2 := upd_ne (s := s3) (j := s2) f v (by omega)
  have e4 := upd_ne (s := s3) (j := p) f v (by omega)
  have e5 := upd_ne (s := s3) (j := q) f v (by omega)
  exact ⟨h.bel, fun d => by rw [e0]; exact h.l0 (dn (by decide) d), fun d => by rw [e1]; exact h.c1 (dn (by decide) d), fun d => by rw [e2]; exact h.l2 (dn (by decide) d), fun _ => by rw [upd_self]; exact hv, fun d => by rw [e4]; exact h.a4 (dn (by decide) d), fun d => by rw [e5]; exact h.a5 (dn (by decide) d), fun d => by rw [e4]; exact ⟨by simp [(h.b6 (dn (by decide) d)).1], (h.b6 (dn (by decide) d)).2⟩, fun d => by rw [e5]; exact ⟨by simp [(h.b7 (dn (by decide) d)).1], (h.b7 (dn (by decide) d)).2⟩, fun d d' => by rw [e4, e5]; exact h.ne (dn (by decide) d) (dn (by decide) d')⟩

theorem Two.set4 (h : Two w0 va vb s0 s1 s2 s3 p q k D f w) (hn : [s0, s1, s2, s3, p, q].Nodup) (hD : D 4 = false) : Two w0 va vb s0 s1 s2 s3 p q k (fun m => m == 4 || D m) (upd f p (.pointer (some ⟨w.heap.size, 0, none⟩))) (w.alloc (.cells #[.bool false, .slice none 0 0, .slice none 0 0] 33)) := by
  have hb : Below w.heap.size w (w.alloc (.cells #[.bool false, .slice none 0 0, .slice none 0 0] 33)) := (Below.refl _ _).alloc (Nat.le_refl _) _
  have hnew := newV_alloc w w0.heap.size h.bel.size
  have k := h.below hb
  simp at hn
  have e0 := upd_ne (s := p) (j := s0) f (.pointer (some ⟨w.heap.size, 0, none⟩)) (by omega)
  have e1 := upd_ne (s := p) (j := s1) f (.pointer (some ⟨w.heap.size, 0, none⟩)) (by omega)
  have e2 := upd_ne (s := p) (j := s2) f (.pointer (some ⟨w.heap.size, 0, none⟩)) (by omega)
  have e3 := upd_ne (s := p) (j := s3) f (.pointer (some ⟨w.heap.size, 0, none⟩)) (by omega)
  have e5 := upd_ne (s := p) (j := q) f (.pointer (some ⟨w.heap.size, 0, none⟩)) (by omega)
  refine ⟨k.bel, fun d => by rw [e0]; exact k.l0 (dn (by decide) d), fun d => by rw [e1]; exact k.c1 (dn (by decide) d), fun d => by rw [e2]; exact k.l2 (dn (by decide) d), fun d => by rw [e3]; exact k.c3 (dn (by decide) d), fun d => by rw [upd_self]; exact hnew, fun d => by rw [e5]; exact k.a5 (dn (by decide) d), fun d => ?_, fun d => by rw [e5]; exact ⟨by simp [(k.b7 (dn (by decide) d)).1], (k.b7 (dn (by decide) d)).2⟩, fun d d' => ?_⟩
  · have := (k.b6 (dn (by decide) d)).1
    rw [hD] at this
    cases this
  · rw [e5, upd_self]
    obtain ⟨g, e, _, hx⟩ := h.a5 (dn (by decide) d')
    have := hx.lt
    rw [e]
    intro e
    injection e with e
    injection e with e
    injection e with e
    omega
theorem Two.set5 (h : Two w0 va vb s0 s1 s2 s3 p q k D f w) (hn : [s0, s1, s2, s3, p, q].Nodup) (hD : D 5 = false) : Two w0 va vb s0 s1 s2 s3 p q k (fun m => m == 5 || D m) (upd f q (.pointer (some ⟨w.heap.size, 0, none⟩))) (w.alloc (.cells #[.bool false, .slice none 0 0, .slice none 0 0] 33)) := by
  have hb : Below w.heap.size w (w.alloc (.cells #[.bool false, .slice none 0 0, .slice none 0 0] 33)) := (Below.refl _ _).alloc (Nat.le_refl _) _
  have hnew := newV_alloc w w0.heap.size h.bel.size
  have k := h.below hb
  simp at hn
  have e0 := upd_ne (s := q) (j := s0) f (.pointer (some ⟨w.heap.size, 0, none⟩)) (by omega)
  have e1 := upd_ne (s := q) (j := s1) f (.pointer (some ⟨w.heap.size, 0, none⟩)) (by omega)
  have e2 := upd_ne (s := q) (j := s2) f (.pointer (some ⟨w.heap.size, 0, none⟩)) (by omega)
  have e3 := upd_ne (s := q) (j := s3) f (.pointer (some ⟨w.heap.size, 0, none⟩)) (by omega)
  have e4 := upd_ne (s := q) (j := p) f (.pointer (some ⟨w.heap.size, 0, none⟩)) (by omega)
  refine ⟨k.bel, fun d => by rw [e0]; exact k.l0 (dn (by decide) d), fun d => by rw [e1]; exact k.c1 (dn (by decide) d), fun d => by rw [e2]; exact k.l2 (dn (by decide) d), fun d => by rw [e3]; exact k.c3 (dn (by decide) d), fun d => by rw [e4]; exact k.a4 (dn (by decide) d), fun d => by rw [upd_self]; exact hnew, fun d => by rw [e4]; exact ⟨by simp [(k.b6 (dn (by decide) d)).1], (k.b6 (dn (by decide) d)).2⟩, fun d => ?_, fun d d' => ?_⟩
  · have := (k.b7 (dn (by decide) d)).1
    rw [hD] at this
    cases this
  · rw [e4, upd_self]
    obtain ⟨g, e, _, hx⟩ := h.a4 (dn (by decide) d)
    have := hx.lt
    rw [e]
    intro e
    injection e with e
    injection e with e
    injection e with e
    omega
theorem Two.set6 {g : Nat} {b : RB} {r : Rat} (h : Two w0 va vb s0 s1 s2 s3 p q k D f w) (hr : RatAt w b r) (hl : RatLe r k) (h4 : D 4 = true) (hg : f p = .pointer (some ⟨g, 0, none⟩)) : Two w0 va vb s0 s1 s2 s3 p q k (fun m => m == 6 || D m) f (store3 w g (ratNeg r) b) := by
  obtain ⟨g', e, hgl, hx⟩ := h.a4 h4
  rw [hg] at e
  injection e with e
  injection e with e
  injection e with e
  subst e
  refine ⟨store3_bel h.bel hgl _ _, fun d => h.l0 (dn (by decide) d), fun d => (h.c1 (dn (by decide) d)).store hx _ _, fun d => h.l2 (dn (by decide) d), fun d => (h.c3 (dn (by decide) d)).store hx _ _, fun d => (h.a4 h4).store hx _ _, fun d => (h.a5 (dn (by decide) d)).store hx _ _, fun d => ⟨by simp [h4], g, b, r, hg, hgl, store3_box hx b r, store3_rat hx hr _ _, hl⟩, fun d => ?_, fun d d' => h.ne (dn (by decide) d) (dn (by decide) d')⟩
  obtain ⟨h5, h7⟩ := h.b7 (dn (by decide) d)
  refine ⟨by simp [h5], h7.store hx ?_ _ _⟩
  rw [← hg]
  exact fun e => h.ne h4 h5 e.symm
theorem Two.set7 {g : Nat} {b : RB} {r : Rat} (h : Two w0 va vb s0 s1 s2 s3 p q k D f w) (hr : RatAt w b r) (hl : RatLe r k) (h5 : D 5 = true) (hg : f q = .pointer (some ⟨g, 0, none⟩)) : Two w0 va vb s0 s1 s2 s3 p q k (fun m => m == 7 || D m) f (store3 w g (ratNeg r) b) := by
  obtain ⟨g', e, hgl, hx⟩ := h.a5 h5
  rw [hg] at e
  injection e with e
  injection e with e
  injection e with e
  subst e
  refine ⟨store3_bel h.bel hgl _ _, fun d => h.l0 (dn (by decide) d), fun d => (h.c1 (dn (by decide) d)).store hx _ _, fun d => h.l2 (dn (by decide) d), fun d => (h.c3 (dn (by decide) d)).store hx _ _, fun d => (h.a4 (dn (by decide) d)).store hx _ _, fun d => (h.a5 h5).store hx _ _, fun d => ?_, fun d => ⟨by simp [h5], g, b, r, hg, hgl, store3_box hx b r, store3_rat hx hr _ _, hl⟩, fun d d' => h.ne (dn (by decide) d) (dn (by decide) d')⟩
  obtain ⟨h4, h6⟩ := h.b6 (dn (by decide) d)
  refine ⟨by simp [h4], h6.store hx ?_ _ _⟩
  rw [← hg]
  exact h.ne h4 h5
end
end Go.Proofs.YtlbbbafehhdpnaaGreatDoor
