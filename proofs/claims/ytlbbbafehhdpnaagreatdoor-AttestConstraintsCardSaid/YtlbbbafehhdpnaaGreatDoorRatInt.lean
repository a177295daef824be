/- Contracts of rat.Int at 1 and at -1. -/
import Derived.Test.YtlbbbafehhdpnaaGreatDoorRatC
import Derived.Test.YtlbbbafehhdpnaaGreatDoorTmSym2
import Derived.Test.YtlbbbafehhdpnaaGreatDoorLinMath
import Derived.Test.YtlbbbafehhdpnaaGreatDoorRatE
namespace Go.Proofs.YtlbbbafehhdpnaaGreatDoor
open Go.RowKit
set_option linter.unusedVariables false
set_option linter.unusedSimpArgs false

set_option maxRecDepth 100000 in
theorem int_p1 (w : World) :
    Calls Tryz.prog 10 #[.int .i64 1] w fun e w' => ∃ b : RB, e = .returned (b.val (ratNeg 1)) ∧ RatAt w' b 1 ∧ Below w.heap.size w w' := by
  skip
  have hr3 := heap_alloc_new w (.cells #[.bool false, .slice none 0 0, .slice none 0 0] 33)
  have hbw := (Below.refl w.heap.size w).alloc (Nat.le_refl _) (.cells #[.bool false, .slice none 0 0, .slice none 0 0] 33)
  go_enter Tryz.func10, Tryz.ntmps10
  go_upto_region 1 with fail
  obtain ⟨wk, hwk⟩ : ∃ x, x = w.alloc (.cells #[.bool false, .slice none 0 0, .slice none 0 0] 33) := ⟨_, rfl⟩
  rw [← hwk] at hr3 hbw ⊢
  have hwd := word_any 1 wk (by decide)
  rw [show ((1 : Nat) : Int) = 1 from rfl] at hwd
  have HR3 := Lib.hid hr3
  have HBW := Lib.hid hbw
  clear hwk hr3 hbw
  go_wp2_with (go_at_call 20; refine hwd.mono ?_; clear hwd; rintro e w5 ⟨v5, rfl, ho5, b5⟩; obtain ⟨A5, c5, rfl, h5⟩ := Num.of (N := 0) ho5 (limbs_small _); obtain ⟨r0, r1, r2⟩ := Box.of (box_keep HR3.out b5); have s0 := frozen_of_blk (box_keep HR3.out b5) 0; have s1' := frozen_of_blk (box_keep HR3.out b5) 1; have s2' := frozen_of_blk (box_keep HR3.out b5) 2; have HB5 := Lib.hid (HBW.out.trans (b5.mono HBW.out.size)); have HK := Lib.hid (box_keep HR3.out b5))
  refine bodyPost_ret (v := .agg #[.bool false, .slice A5 (limbs 1).length c5, .slice none 0 0]) (by simp [results, Tryz.results10, go_sem, r0, r1, r2]) rfl ?_
  refine ⟨⟨A5, (limbs 1).length, c5, none, 0, 0⟩, rfl, ⟨?_, ?_⟩, bl_set (bl_set (bl_set HB5.out ?_) ?_) ?_⟩
  · refine h5.fr (S := fun b => b = w.heap.size) (fr_set (fr_set (fr_set (Fr.refl _ _) (.inl rfl)) (.inl rfl)) (.inl rfl)) ?_
    intro b i k hb e
    subst hb
    rw [cell_of_blk HK.out i] at e
    exact no_int3 _ _ _ (by simp) (by simp) (by simp) i k e
  · exact Num.nil_ _
  all_goals
    simp
set_option maxRecDepth 100000 in
theorem int_m1 (w : World) :
    Calls Tryz.prog 10 #[.int .i64 (-1)] w fun e w' => ∃ b : RB, e = .returned (b.val (ratNeg (-1))) ∧ RatAt w' b (-1) ∧ Below w.heap.size w w' := by
  skip
  have hr3 := heap_alloc_new w (.cells #[.bool false, .slice none 0 0, .slice none 0 0] 33)
  have hbw := (Below.refl w.heap.size w).alloc (Nat.le_refl _) (.cells #[.bool false, .slice none 0 0, .slice none 0 0] 33)
  go_enter Tryz.func10, Tryz.ntmps10
  go_upto_region 1 with fail
  obtain ⟨wk, hwk⟩ : ∃ x, x = w.alloc (.cells #[.bool false, .slice none 0 0, .slice none 0 0] 33) := ⟨_, rfl⟩
  rw [← hwk] at hr3 hbw ⊢
  have hwd := word_any 1 wk (by decide)
  rw [show ((1 : Nat) : Int) = 1 from rfl] at hwd
  have HR3 := Lib.hid hr3
  have HBW := Lib.hid hbw
  clear hwk hr3 hbw
  go_wp2_with (go_at_call 20; refine hwd.mono ?_; clear hwd; rintro e w5 ⟨v5, rfl, ho5, b5⟩; obtain ⟨A5, c5, rfl, h5⟩ := Num.of (N := 0) ho5 (limbs_small _); obtain ⟨r0, r1, r2⟩ := Box.of (box_keep HR3.out b5); have s0 := frozen_of_blk (box_keep HR3.out b5) 0; have s1' := frozen_of_blk (box_keep HR3.out b5) 1; have s2' := frozen_of_blk (box_keep HR3.out b5) 2; have HB5 := Lib.hid (HBW.out.trans (b5.mono HBW.out.size)); have HK := Lib.hid (box_keep HR3.out b5))
  refine bodyPost_ret (v := .agg #[.bool true, .slice A5 (limbs 1).length c5, .slice none 0 0]) (by simp [results, Tryz.results10, go_sem, r0, r1, r2]) rfl ?_
  refine ⟨⟨A5, (limbs 1).length, c5, none, 0, 0⟩, rfl, ⟨?_, ?_⟩, bl_set (bl_set (bl_set HB5.out ?_) ?_) ?_⟩
  · refine h5.fr (S := fun b => b = w.heap.size) (fr_set (fr_set (fr_set (Fr.refl _ _) (.inl rfl)) (.inl rfl)) (.inl rfl)) ?_
    intro b i k hb e
    subst hb
    rw [cell_of_blk HK.out i] at e
    exact no_int3 _ _ _ (by simp) (by simp) (by simp) i k e
  · exact Num.nil_ _
  all_goals
    simp
theorem p1_le (k : Nat) (h : 1 ≤ k) : RatLe 1 k := by
  have e : (limbs 1).length = 1 := by rw [limbs_pos 1 (by decide), show 1 / 4294967296 = 0 by decide, limbs_zero]; rfl
  exact ⟨by rw [show (1 : Rat).num.natAbs = 1 by decide, e]; exact h, by rw [show (1 : Rat).den = 1 by decide, e]; exact h⟩
theorem m1_le (k : Nat) (h : 1 ≤ k) : RatLe (-1) k := neg_le (p1_le k h)
end Go.Proofs.YtlbbbafehhdpnaaGreatDoor

namespace Go.Proofs.YtlbbbafehhdpnaaGreatDoor
open Go.RowKit
set_option linter.unusedVariables false
set_option linter.unusedSimpArgs false

theorem RatLe.up {q : Rat} {a b : Nat} (h : RatLe q a) (hab : a ≤ b) : RatLe q b := ⟨Nat.le_trans h.num hab, Nat.le_trans h.den hab⟩
theorem RatAt.frT {S : Nat → Prop} {w w' : World} {b : RB} {q : Rat} (h : RatAt w b q) (hf : Fr S w w') (hS : ∀ b, S b → ∃ cs t m, w.heap[b]? = some (.cells cs t m) ∧ t ≠ 92) : RatAt w' b q := ⟨h.num.frT hf hS, h.den.frT hf hS⟩
/-- a number of a term that may stand there. -/
def TOk (w : World) (k : Nat) (t : TB) : Prop := RatAt w t.1 t.2.2 ∧ RatLe t.2.2 k ∧ -9223372036854775808 ≤ t.2.1 ∧ t.2.1 ≤ 9223372036854775807
theorem TOk.below {w w' : World} {k : Nat} {t : TB} (h : TOk w k t) (hb : Below w.heap.size w w') : TOk w' k t := ⟨h.1.below hb, h.2⟩
theorem TOk.up {w : World} {k k' : Nat} {t : TB} (h : TOk w k t) (hk : k ≤ k') : TOk w k' t := ⟨h.1, h.2.1.up hk, h.2.2⟩
/-- where the slice lies stand terms alone. -/
def TypT (w : World) (A : Option Addr) (n : Nat) : Prop := 0 < n → ∃ b off cs m, A = some ⟨b, off, none⟩ ∧ w.heap[b]? = some (.cells cs 70 m)
theorem TypT.keep {w w' : World} {A : Option Addr} {n : Nat} (h : TypT w A n) (hb : Below w.heap.size w w') : TypT w' A n := fun h0 => by
  obtain ⟨b, off, cs, m, e, hx⟩ := h h0
  exact ⟨b, off, cs, m, e, (hb.block b (Array.getElem?_eq_some_iff.1 hx).1).trans hx⟩
/-- the slice reads as these terms. -/
structure TmsAt (w : World) (A : Option Addr) (n c : Nat) (l : List TB) (k : Nat) : Prop where
  rd : Rd w 4 A n (tmsL l)
  len : l.length = n
  cap : n ≤ c
  each : ∀ t ∈ l, TOk w k t
  typ : TypT w A n
theorem TmsAt.below {w w' : World} {A : Option Addr} {n c k : Nat} {l : List TB} (h : TmsAt w A n c l k) (hb : Below w.heap.size w w') : TmsAt w' A n c l k := ⟨h.rd.below hb, h.len, h.cap, fun t ht => (h.each t ht).below hb, h.typ.keep hb⟩
theorem TmsAt.up {w : World} {A : Option Addr} {n c k k' : Nat} {l : List TB} (h : TmsAt w A n c l k) (hk : k ≤ k') : TmsAt w A n c l k' := ⟨h.rd, h.len, h.cap, fun t ht => (h.each t ht).up hk, h.typ⟩
theorem TmsAt.nil_ (w : World) (k : Nat) : TmsAt w none 0 0 [] k := ⟨Rd.none_, rfl, Nat.le_refl _, by simp, fun h => absurd h (by decide)⟩
theorem TmsAt.of_own {w : World} {B n k : Nat} {v : Value} {l : List TB} (h : w.ownsRow B 70 4 v n (tmsL l)) (he : ∀ t ∈ l, TOk w k t) : ∃ A c, v = .slice A n c ∧ TmsAt w A n c l k := by
  obtain ⟨A, c, rfl, hc, hr⟩ := ownsRow_form h
  have hl : l.length = n := by
    have := h.1
    rw [tmsL_len] at this
    omega
  refine ⟨A, c, rfl, hr, hl, hc, he, fun h0 => ?_⟩
  rcases h.2 with ⟨_, hx⟩ | ⟨g, cap, cur, hv, _, hx, _⟩
  · omega
  · injection hv with h1 h2 h3
    exact ⟨g, 0, cur, (0, 0), h1, hx⟩
/-- where an expression lies. -/
structure EB where
  A : Option Addr
  n : Nat
  c : Nat
  b : RB
def EB.val (e : EB) (s : Bool) : Value := .agg #[.slice e.A e.n e.c, .bool s, .slice e.b.A e.b.n e.b.c, .slice e.b.A2 e.b.n2 e.b.c2]
structure EAt (w : World) (e : EB) (l : List TB) (q : Rat) (k : Nat) : Prop where
  tms : TmsAt w e.A e.n e.c l k
  cst : RatAt w e.b q
  le : RatLe q k
theorem EAt.below {w w' : World} {e : EB} {l : List TB} {q : Rat} {k : Nat} (h : EAt w e l q k) (hb : Below w.heap.size w w') : EAt w' e l q k := ⟨h.tms.below hb, h.cst.below hb, h.le⟩
theorem EAt.up {w : World} {e : EB} {l : List TB} {q : Rat} {k k' : Nat} (h : EAt w e l q k) (hk : k ≤ k') : EAt w e l q k' := ⟨h.tms.up hk, h.cst, h.le.up hk⟩
/-- the terms without their places. -/
def tmsOf (l : List TB) : List Tm := l.map (·.2)
theorem tmsOf_app (l m : List TB) : tmsOf (l ++ m) = tmsOf l ++ tmsOf m := List.map_append
theorem tmsOf_len (l : List TB) : (tmsOf l).length = l.length := List.length_map _
/-- what an expression comes to. -/
def evE (p : Int → Rat) (l : List TB) (q : Rat) : Rat := q + evT p (tmsOf l)
theorem run_zeroE : True := trivial
theorem zero_at (w : World) : RatAt w ⟨none, 0, 0, none, 0, 0⟩ 0 := by
  refine ⟨?_, ?_⟩
  · rw [show (0 : Rat).num.natAbs = 0 by decide, limbs_zero]; exact Num.nil_ w
  · unfold ratDen; rw [if_pos (by decide)]; exact Num.nil_ w
theorem zero_neg : ratNeg 0 = false := by decide
theorem zero_le (k : Nat) (h : 1 ≤ k) : RatLe 0 k := by
  refine ⟨?_, ?_⟩
  · rw [show (0 : Rat).num.natAbs = 0 by decide, limbs_zero]; exact Nat.zero_le _
  · rw [show (0 : Rat).den = 1 by decide, limbs_pos 1 (by decide), show 1 / 4294967296 = 0 by decide, limbs_zero]; exact h
/-- an own row of terms is no place of words. -/
theorem own_typ {w : World} {B n : Nat} {v : Value} {xs : List Value} (h : w.ownsRow B 70 4 v n xs) : ∀ b, ownS v b → ∃ cs t m, w.heap[b]? = some (.cells cs t m) ∧ t ≠ 92 := by
  intro b hb
  rcases h.2 with ⟨rfl, _⟩ | ⟨g, cap, cur, rfl, _, hx, _⟩
  · simp [ownS, Value.ownBlock] at hb
  · have : g = b := by simpa [ownS, Value.ownBlock] using hb
    subst this
    exact ⟨cur, _, _, hx, by decide⟩
theorem TOk.fr {w w' : World} {B n k : Nat} {v : Value} {xs : List Value} {t : TB} (h : TOk w k t) (hown : w.ownsRow B 70 4 v n xs) (hf : Fr (ownS v) w w') : TOk w' k t := ⟨h.1.frT hf (own_typ hown), h.2⟩
theorem Rd.at4 {w : World} {A : Option Addr} {n : Nat} {l : List TB} (h : Rd w 4 A n (tmsL l)) (hl : l.length = n) {i : Nat} (hi : i < n) : ∃ (g off : Nat) (t : TB), A = some ⟨g, off, none⟩ ∧ l[i]? = some t ∧ w.cell? ⟨g, off + i * 4, none⟩ = some (.int .i64 t.2.1) ∧ w.cell? ⟨g, off + i * 4 + 1, none⟩ = some (.bool (ratNeg t.2.2)) ∧ w.cell? ⟨g, off + i * 4 + 2, none⟩ = some (.slice t.1.A t.1.n t.1.c) ∧ w.cell? ⟨g, off + i * 4 + 3, none⟩ = some (.slice t.1.A2 t.1.n2 t.1.c2) := by
  obtain ⟨g, off, e, hc⟩ := h.2 (by omega)
  have hl' : i < l.length := by omega
  have key := tmsL_at l i l[i] (List.getElem?_eq_getElem hl')
  refine ⟨g, off, l[i], e, List.getElem?_eq_getElem hl', ?_, ?_, ?_, ?_⟩
  · have := hc (i * 4) _ ((key 0 (by decide)).trans rfl)
    exact this
  · have := hc (i * 4 + 1) _ ((key 1 (by decide)).trans rfl)
    rwa [← Nat.add_assoc] at this
  · have := hc (i * 4 + 2) _ ((key 2 (by decide)).trans rfl)
    rwa [← Nat.add_assoc] at this
  · have := hc (i * 4 + 3) _ ((key 3 (by decide)).trans rfl)
    rwa [← Nat.add_assoc] at this
theorem sort_own (l : List TB) (B : Nat) (A : Option Addr) (n c : Nat) (w : World) (h : w.ownsRow B 70 4 (.slice A n c) n (tmsL l)) (hbnd : n ≤ 1000) :
    Calls Tryz.prog 37 #[.slice A n c, .func (.func 38) #[] #[]] w fun e w' => e = .returned (.tuple #[]) ∧ ∃ l', l'.Perm l ∧ w'.ownsRow B 70 4 (.slice A n c) n (tmsL l') ∧ Fr (ownS (.slice A n c)) w w' := by
  have hlen : l.length = n := by
    have := h.1
    rw [tmsL_len] at this
    omega
  rcases Nat.eq_zero_or_pos n with h0 | h0
  · subst h0
    refine (sort_zero A c w).mono ?_
    rintro e w' ⟨rfl, hw⟩
    obtain rfl := hw.symm
    exact ⟨rfl, l, List.Perm.refl _, h, Fr.refl _ _⟩
  · obtain ⟨g, c', e, hBg, _, _⟩ := owned_form h h0
    injection e with e1 e2 e3
    subst e1; subst e3
    subst hlen
    have ht : TRow w g c l := ⟨own_more h (Nat.zero_le _)⟩
    refine (sort_any l g c w ht hbnd).mono ?_
    rintro e w' ⟨rfl, l', hp, ht', hf⟩
    have hl' := hp.length_eq
    refine ⟨rfl, l', hp, ?_, hf.mono fun b _ hb => by simp [ownS, Value.ownBlock, hb]⟩
    have ho := ht'.own
    rw [hl'] at ho
    refine ⟨ho.1, ?_⟩
    rcases ho.2 with h' | ⟨g', cap, cur, hv, _, r⟩
    · exact .inl h'
    · have hv2 := hv
      injection hv with e1 _ _
      injection e1 with e1
      injection e1 with e1
      exact .inr ⟨g', cap, cur, hv2, by omega, r⟩
theorem RatAt.frB {S : Nat → Prop} {w w' : World} {b : RB} {q : Rat} (h : RatAt w b q) (hf : Fr S w w') (hS : ∀ b, S b → ∃ cs t m, w.heap[b]? = some (.cells cs t m) ∧ t ≠ 92 ∧ t ≠ 70) : RatAt w' b q := h.frT hf fun b hb => by
  obtain ⟨cs, t, m, h1, h2, _⟩ := hS b hb
  exact ⟨cs, t, m, h1, h2⟩
theorem TmsAt.fr {S : Nat → Prop} {w w' : World} {A : Option Addr} {n c k : Nat} {l : List TB} (h : TmsAt w A n c l k) (hf : Fr S w w') (hS : ∀ b, S b → ∃ cs t m, w.heap[b]? = some (.cells cs t m) ∧ t ≠ 92 ∧ t ≠ 70) : TmsAt w' A n c l k := by
  have hno : ∀ b off, A = some ⟨b, off, none⟩ → 0 < n → ¬ S b := by
    intro b off e h0 hs
    obtain ⟨b', o', cs, m, e', hx⟩ := h.typ h0
    rw [e] at e'
    injection e' with e'
    injection e' with e1 e2
    subst e1
    obtain ⟨cs', t, m', hx', _, hne⟩ := hS b hs
    rw [hx] at hx'
    injection hx' with hx'
    injection hx' with _ ht _
    exact hne ht.symm
  refine ⟨⟨h.rd.1, fun h0 => ?_⟩, h.len, h.cap, fun t ht => ⟨(h.each t ht).1.frB hf hS, (h.each t ht).2⟩, fun h0 => ?_⟩
  · obtain ⟨b, o, e, hc⟩ := h.rd.2 h0
    refine ⟨b, o, e, fun j u hu => ?_⟩
    rw [hf.cell (p := ⟨b, o + j, none⟩) (World.block_lt_of_cell? w _ (hc j u hu)) (hno b o e h0)]
    exact hc j u hu
  · obtain ⟨b, o, cs, m, e, hx⟩ := h.typ h0
    exact ⟨b, o, cs, m, e, (hf.block b (Array.getElem?_eq_some_iff.1 hx).1 (hno b o e h0)).trans hx⟩
/-- a store of a whole expression into a box. -/
def store4 (w : World) (g : Nat) (A : Option Addr) (n c : Nat) (s : Bool) (b : RB) : World := (((w.setCell ⟨g, 0, none⟩ (.slice A n c)).setCell ⟨g, 1, none⟩ (.bool s)).setCell ⟨g, 2, none⟩ (.slice b.A b.n b.c)).setCell ⟨g, 3, none⟩ (.slice b.A2 b.n2 b.c2)
theorem store4_fr (w : World) (g : Nat) (A : Option Addr) (n c : Nat) (s : Bool) (b : RB) : Fr (fun k => k = g) w (store4 w g A n c s b) := fr_set (fr_set (fr_set (fr_set (Fr.refl _ _) (.inl rfl)) (.inl rfl)) (.inl rfl)) (.inl rfl)
theorem store4_bel {w0 w : World} {g B : Nat} (h : Below B w0 w) (hg : B ≤ g) (A : Option Addr) (n c : Nat) (s : Bool) (b : RB) : Below B w0 (store4 w g A n c s b) := bl_set (bl_set (bl_set (bl_set h hg) hg) hg) hg
theorem box4 {w : World} {g : Nat} {a b c d : Value} {t : TypeId} (h : w.heap[g]? = some (.cells #[a, b, c, d] t (0, 0))) : w.cell? ⟨g, 0, none⟩ = some a ∧ w.cell? ⟨g, 1, none⟩ = some b ∧ w.cell? ⟨g, 2, none⟩ = some c ∧ w.cell? ⟨g, 3, none⟩ = some d :=
  ⟨cell_of_blk h 0, cell_of_blk h 1, cell_of_blk h 2, cell_of_blk h 3⟩
theorem typ_of {w : World} {g : Nat} {cs : Array Value} {t : TypeId} (h : w.heap[g]? = some (.cells cs t (0, 0))) (ht : t ≠ 92 ∧ t ≠ 70) : ∀ b, b = g → ∃ cs t m, w.heap[b]? = some (.cells cs t m) ∧ t ≠ 92 ∧ t ≠ 70 := fun b hb => ⟨cs, t, (0, 0), by rw [hb]; exact h, ht⟩
end Go.Proofs.YtlbbbafehhdpnaaGreatDoor
