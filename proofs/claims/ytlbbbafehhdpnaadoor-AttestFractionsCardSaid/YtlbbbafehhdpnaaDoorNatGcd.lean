/- Contract of package nat: Gcd. -/
import Derived.Test.YtlbbbafehhdpnaaDoorNumOps
import Derived.Deep.LoopGhost
import Derived.Test.YtlbbbafehhdpnaaDoorRatMath
import Derived.Deep.DeepCutAuto
import Derived.Deep.RegionHeld3
namespace Go.Proofs.YtlbbbafehhdpnaaDoor
open Go.RowKit
set_option linter.unusedVariables false
set_option linter.unusedSimpArgs false

theorem sum_len (X Y a b : Nat) (hX : X < 2 ^ (32 * a)) (hY : Y < 2 ^ (32 * b)) (M : Nat) (h : M ≤ X + Y) : (limbs M).length ≤ a + b + 1 := by
  have h1 : 2 ^ (32 * a) ≤ 2 ^ (32 * (a + b)) := Nat.pow_le_pow_right (by decide) (by omega)
  have h2 : 2 ^ (32 * b) ≤ 2 ^ (32 * (a + b)) := Nat.pow_le_pow_right (by decide) (by omega)
  have h3 : 2 ^ (32 * (a + b + 1)) = 2 ^ (32 * (a + b)) * 4294967296 := pow_succ32 _
  refine limbs_len_le ?_
  rw [h3]
  generalize 2 ^ (32 * (a + b)) = P at *
  omega
theorem gcd_step (M K : Nat) : Nat.gcd K (M % K) = Nat.gcd M K := by
  rw [Nat.gcd_comm K, ← Nat.gcd_rec, Nat.gcd_comm]

set_option maxRecDepth 100000 in
set_option maxHeartbeats 4000000 in
theorem gcd_num {w : World} {A A2 : Option Addr} {n c n2 c2 : Nat} {l m : List Nat} (h : Num w A n c l) (h2 : Num w A2 n2 c2 m) (hb : l.length ≤ 10000000) (hb2 : m.length ≤ 10000000) :
    Calls Tryd.prog 35 #[.slice A n c, .slice A2 n2 c2] w fun e w' => ∃ A' n' c', e = .returned (.slice A' n' c') ∧ Num w' A' n' c' (limbs (Nat.gcd (lv l) (lv m))) ∧ Below w.heap.size w w' := by
  have hN1 := norm_num h (by omega)
  have hN2 := fun W hW => norm_num (w := W) (h2.below hW) (by omega)
  have hX := lv_lt l h.sm
  have hY := lv_lt m h2.sm
  have hsl := fun M hM => sum_len (lv l) (lv m) _ _ hX hY M hM
  generalize lv l = X at *
  generalize lv m = Y at *
  have hsl2 : ∀ M, M ≤ X + Y → (limbs M).length ≤ 100000000 := fun M hM => by have := hsl M hM; omega
  have HN2 := Lib.hid hN2
  have HSL := Lib.hid hsl2
  clear hN2 hX hY hsl hsl2 h h2
  go_enter Tryd.func35, Tryd.ntmps35
  go_upto_region 2 with (first | (go_at_call 39; refine hN1.mono ?_; clear hN1; rintro e w1 ⟨A1, n1, c1, rfl, h1, b1⟩; have hcall := HN2.out w1 b1) | (go_at_call 39; refine hcall.mono ?_; clear hcall; rintro e w2 ⟨A3, n3, c3, rfl, h3, b3⟩))
  have H1 := Lib.hid (h1.below b3)
  have H3 := Lib.hid h3
  have HB := Lib.hid (b1.trans (b3.mono b1.size))
  clear h1 h3 b1 b3 HN2
  go_loopg [0, 1] Y (fun γ a b wr => ∃ (M K : Nat) (A4 : Option Addr) (n4 c4 : Nat) (A5 : Option Addr) (n5 c5 : Nat), γ = K ∧ a = .slice A4 n4 c4 ∧ b = .slice A5 n5 c5 ∧ Nat.gcd M K = Nat.gcd X Y ∧ M ≤ X + Y ∧ K ≤ X + Y ∧ Num wr A4 n4 c4 (limbs M) ∧ Num wr A5 n5 c5 (limbs K) ∧ Below w.heap.size w wr)
  case atStart => exact ⟨X, Y, _, _, _, _, _, _, rfl, rfl, rfl, rfl, by omega, by omega, H1.out, H3.out, HB.out⟩
  case round =>
    obtain ⟨M, K, A4, n4, c4, A5, n5, c5, hMe, rfl, rfl, hg, hM, hK, h4, h5, hbw⟩ := hrel
    have hMe' := hMe.symm
    subst hMe'
    clear hMe
    have HG := Lib.hid hg
    have HBW := Lib.hid hbw
    by_cases h0 : K = 0
    · subst h0
      have hn5 := h5.len
      rw [limbs_zero] at hn5
      have hn50 : n5 = 0 := hn5.symm
      subst hn50
      have H4 := Lib.hid h4
      clear h4 h5 hg hbw hn5
      go_wp2_with fail
      go_ret
      refine ⟨_, _, _, rfl, ?_, HBW.out⟩
      rw [← HG.out, Nat.gcd_zero_right]
      exact H4.out
    · have hpos : 0 < lv (limbs K) := by rw [lv_limbs]; omega
      have hdm := divmod_num h4 h5 (HSL.out M hM) (HSL.out K hK) hpos
      rw [lv_limbs, lv_limbs] at hdm
      have hn5 : 0 < n5 := by have := h5.len; have := (limbs_top K h0).1; omega
      have hlt : M % K < K := Nat.mod_lt _ (by omega)
      have hle : M % K ≤ X + Y := by omega
      have hgs := gcd_step M K
      have HDM := Lib.hid hdm
      have HGS := Lib.hid hgs
      have H5 := Lib.hid h5
      obtain ⟨R, hR⟩ : ∃ R, M % K = R := ⟨_, rfl⟩
      rw [hR] at hlt hle HDM HGS
      clear hdm hgs h4 h5 hg hbw hpos hR
      go_wp2_with (go_at_call 11; refine HDM.out.mono ?_; rintro e w6 ⟨A6, n6, c6, A7, n7, c7, rfl, h6, h7, b6⟩)
      go_roundg R
      case measure => exact hlt
      case rel => exact ⟨K, R, _, _, _, _, _, _, rfl, rfl, rfl, HGS.out.trans HG.out, hK, hle, H5.out.below b6, h7, HBW.out.trans (b6.mono HBW.out.size)⟩
end Go.Proofs.YtlbbbafehhdpnaaDoor

namespace Go.Proofs.YtlbbbafehhdpnaaDoor
open Go.RowKit
set_option linter.unusedVariables false
set_option linter.unusedSimpArgs false

/-- where the two naturals of a rational number lie. -/
structure RB where
  A : Option Addr
  n : Nat
  c : Nat
  A2 : Option Addr
  n2 : Nat
  c2 : Nat
def ratDen (q : Rat) : List Nat := if q.den = 1 then [] else limbs q.den
/-- such a value is this number. -/
structure RatAt (w : World) (b : RB) (q : Rat) : Prop where
  num : Num w b.A b.n b.c (limbs q.num.natAbs)
  den : Num w b.A2 b.n2 b.c2 (ratDen q)
def RB.val (b : RB) (s : Bool) : Value := .agg #[.bool s, .slice b.A b.n b.c, .slice b.A2 b.n2 b.c2]
theorem RatAt.below {w w' : World} {b : RB} {q : Rat} (h : RatAt w b q) (hb : Below w.heap.size w w') : RatAt w' b q := ⟨h.num.below hb, h.den.below hb⟩
theorem RatAt.drewN {w : World} {b : RB} {q : Rat} (h : RatAt w b q) (k : Nat) : RatAt (w.drewN k) b q := ⟨h.num.drewN k, h.den.drewN k⟩
theorem RatAt.alloc {w : World} {b : RB} {q : Rat} (h : RatAt w b q) (o : Obj) : RatAt (w.alloc o) b q := ⟨h.num.alloc o, h.den.alloc o⟩
theorem ratDen_nil {w : World} {b : RB} {q : Rat} (h : RatAt w b q) : (b.n2 = 0 ↔ q.den = 1) := by
  have hl := h.den.len
  unfold ratDen at hl
  by_cases h1 : q.den = 1
  · rw [if_pos h1] at hl
    simp at hl
    omega
  · rw [if_neg h1] at hl
    have := (limbs_top q.den q.den_nz).1
    omega
theorem ratNum_nil {w : World} {b : RB} {q : Rat} (h : RatAt w b q) : (b.n = 0 ↔ q.num.natAbs = 0) := by
  have hl := h.num.len
  by_cases h1 : q.num.natAbs = 0
  · rw [h1, limbs_zero] at hl
    simp at hl
    omega
  · have := (limbs_top q.num.natAbs h1).1
    omega
theorem num_lit1 (w : World) : Num (w.alloc (.cells #[.int .u32 1] 25)) (some ⟨w.heap.size, 0, none⟩) 1 1 (limbs 1) := by
  have e : limbs 1 = [1] := by rw [limbs_pos 1 (by decide), show 1 / 4294967296 = 0 by decide, limbs_zero]
  rw [e]
  exact ⟨rd_lit w _ _, rfl, Nat.le_refl _, fun y hy => by simp at hy; omega⟩

theorem one_any (w : World) :
    Calls Tryd.prog 75 #[] w fun e w' => ∃ A' n' c', e = .returned (.slice A' n' c') ∧ Num w' A' n' c' (limbs 1) ∧ Below w.heap.size w w' := by
  go_enter Tryd.func75, Tryd.ntmps75
  go_wp2_with fail
  go_ret
  exact ⟨_, _, _, rfl, num_lit1 w, (Below.refl _ _).alloc (Nat.le_refl _) _⟩
set_option maxRecDepth 100000 in
theorem below_any (s : Bool) (b : RB) (q : Rat) (w : World) (h : RatAt w b q) :
    Calls Tryd.prog 54 #[b.val s] w fun e w' => ∃ A' n' c', e = .returned (.slice A' n' c') ∧ Num w' A' n' c' (limbs q.den) ∧ Below w.heap.size w w' := by
  have hnil := ratDen_nil h
  obtain ⟨A, n, c, A2, n2, c2⟩ := b
  have hd := h.den
  unfold RB.val
  simp only at hnil hd ⊢
  unfold ratDen at hd
  by_cases h1 : q.den = 1
  · obtain rfl := hnil.2 h1
    rw [h1]
    clear h hd hnil h1
    go_enter Tryd.func54, Tryd.ntmps54
    go_wp2_with (go_at_call 75; refine (one_any _).mono ?_; rintro e w1 ⟨A1, n1, c1, rfl, h1, b1⟩)
    go_ret
    exact ⟨_, _, _, rfl, h1, ((Below.refl w.heap.size w).alloc (Nat.le_refl _) _).trans (b1.mono (by simp))⟩
  · rw [if_neg h1] at hd
    have hn2 : ((n2 : Int) == 0) = false := by rw [beq_eq_false_iff_ne]; intro e; exact h1 (hnil.1 (by omega))
    have HD := Lib.hid hd
    clear h hd hnil h1
    go_enter Tryd.func54, Tryd.ntmps54
    go_wp2_with fail
    go_ret
    exact ⟨_, _, _, rfl, HD.out.alloc _, (Below.refl w.heap.size w).alloc (Nat.le_refl _) _⟩
theorem whole_any (s : Bool) (b : RB) (q : Rat) (w : World) (h : RatAt w b q) :
    Calls Tryd.prog 68 #[b.val s] w fun e w' => e = .returned (.bool (decide (q.den = 1))) ∧ Below w.heap.size w w' := by
  have hnil := ratDen_nil h
  obtain ⟨A, n, c, A2, n2, c2⟩ := b
  unfold RB.val
  simp only at hnil ⊢
  have hq : ((n2 : Int) == 0) = decide (q.den = 1) := by
    by_cases h1 : q.den = 1
    · rw [hnil.2 h1, decide_eq_true h1]; rfl
    · rw [decide_eq_false h1, beq_eq_false_iff_ne]; intro e; exact h1 (hnil.1 (by omega))
  have HQ := Lib.hid hq
  clear h hnil hq
  go_enter Tryd.func68, Tryd.ntmps68
  go_wp2_with fail
  go_ret
  exact ⟨ret_bool HQ.out, (Below.refl w.heap.size w).alloc (Nat.le_refl _) _⟩
def signZ (q : Rat) : Int := if q.num.natAbs = 0 then 0 else if ratNeg q then -1 else 1
theorem sign_any (b : RB) (q : Rat) (w : World) (h : RatAt w b q) :
    Calls Tryd.prog 76 #[b.val (ratNeg q)] w fun e w' => e = .returned (.int .i64 (signZ q)) ∧ Below w.heap.size w w' := by
  have hnil := ratNum_nil h
  obtain ⟨A, n, c, A2, n2, c2⟩ := b
  unfold RB.val
  simp only at hnil ⊢
  unfold signZ
  by_cases h1 : q.num.natAbs = 0
  · rw [if_pos h1]
    obtain rfl := hnil.2 h1
    clear h hnil h1
    generalize ratNeg q = s
    go_enter Tryd.func76, Tryd.ntmps76
    go_wp2_with fail
    go_ret
    exact ⟨rfl, (Below.refl w.heap.size w).alloc (Nat.le_refl _) _⟩
  · rw [if_neg h1]
    have hn : ((n : Int) == 0) = false := by rw [beq_eq_false_iff_ne]; intro e; exact h1 (hnil.1 (by omega))
    clear h hnil h1
    cases ratNeg q
    · go_enter Tryd.func76, Tryd.ntmps76
      go_wp2_with fail
      go_ret
      exact ⟨rfl, (Below.refl w.heap.size w).alloc (Nat.le_refl _) _⟩
    · go_enter Tryd.func76, Tryd.ntmps76
      go_wp2_with fail
      go_ret
      exact ⟨rfl, (Below.refl w.heap.size w).alloc (Nat.le_refl _) _⟩
end Go.Proofs.YtlbbbafehhdpnaaDoor

namespace Go.Proofs.YtlbbbafehhdpnaaDoor
open Go.RowKit
set_option linter.unusedVariables false
set_option linter.unusedSimpArgs false

theorem ratAt_neg {w : World} {b : RB} {q : Rat} (h : RatAt w b q) : RatAt w b (-q) := by
  obtain ⟨_, h2, h3⟩ := neg_rat q
  refine ⟨by rw [h2]; exact h.num, ?_⟩
  have := h.den
  unfold ratDen at this ⊢
  rw [h3]; exact this
theorem bl_alloc {B : Nat} {a w : World} {o : Obj} (h : Below B a w) (hB : B ≤ w.heap.size) : Below B a (w.alloc o) := h.alloc hB o
theorem bl_set {B : Nat} {a w : World} {p : Addr} {u : Value} (h : Below B a w) (hp : B ≤ p.block) : Below B a (w.setCell p u) := h.setCell hp u
set_option maxRecDepth 100000 in
theorem neg_any (b : RB) (q : Rat) (w : World) (h : RatAt w b q) :
    Calls Tryd.prog 28 #[b.val (ratNeg q)] w fun e w' => e = .returned (b.val (ratNeg (-q))) ∧ RatAt w' b (-q) ∧ Below w.heap.size w w' := by
  have hnil := ratNum_nil h
  have hr := ratAt_neg h
  obtain ⟨hs, _, _⟩ := neg_rat q
  rw [hs]
  have hpos : decide (0 < q.num.natAbs) = decide ((b.n : Int) > 0) := by
    by_cases h0 : q.num.natAbs = 0
    · rw [decide_eq_false (by omega), decide_eq_false (by have := hnil.2 h0; omega)]
    · rw [decide_eq_true (by omega), decide_eq_true]
      have : b.n ≠ 0 := fun e => h0 (hnil.1 e)
      omega
  rw [hpos]
  have HR := Lib.hid hr
  clear h hnil hr hs hpos
  obtain ⟨A, n, c, A2, n2, c2⟩ := b
  unfold RB.val
  simp only
  cases ratNeg q
  · by_cases hn : n = 0
    · subst hn
      go_enter Tryd.func28, Tryd.ntmps28
      go_wp2_with fail
      refine bodyPost_ret (v := .agg #[.bool false, .slice A 0 c, .slice A2 n2 c2]) (by simp [results, Tryd.results28, go_sem] <;> omega) rfl ?_
      refine ⟨rfl, HR.out.below ?_, ?_⟩
      all_goals
        repeat' (first | exact Below.refl _ _ | refine bl_set ?_ ?_ | refine bl_alloc ?_ ?_ | (simp; done) | (simp; omega))
    · have hn2 : ((n : Int) > 0) := by omega
      rw [decide_eq_true hn2]
      go_enter Tryd.func28, Tryd.ntmps28
      go_wp2_with fail
      refine bodyPost_ret (v := .agg #[.bool true, .slice A n c, .slice A2 n2 c2]) (by simp [results, Tryd.results28, go_sem] <;> omega) rfl ?_
      refine ⟨rfl, HR.out.below ?_, ?_⟩
      all_goals
        repeat' (first | exact Below.refl _ _ | refine bl_set ?_ ?_ | refine bl_alloc ?_ ?_ | (simp; done) | (simp; omega))
  · skip
    go_enter Tryd.func28, Tryd.ntmps28
    go_wp2_with fail
    refine bodyPost_ret (v := .agg #[.bool false, .slice A n c, .slice A2 n2 c2]) (by simp [results, Tryd.results28, go_sem] <;> omega) rfl ?_
    refine ⟨rfl, HR.out.below ?_, ?_⟩
    all_goals
      repeat' (first | exact Below.refl _ _ | refine bl_set ?_ ?_ | refine bl_alloc ?_ ?_ | (simp; done) | (simp; omega))
set_option maxRecDepth 100000 in
theorem abs_any (s : Bool) (b : RB) (w : World) :
    Calls Tryd.prog 29 #[b.val s] w fun e w' => e = .returned (b.val false) ∧ Below w.heap.size w w' := by
  obtain ⟨A, n, c, A2, n2, c2⟩ := b
  unfold RB.val
  simp only
  go_enter Tryd.func29, Tryd.ntmps29
  go_wp2_with fail
  refine bodyPost_ret (v := .agg #[.bool false, .slice A n c, .slice A2 n2 c2]) (by simp [results, Tryd.results29, go_sem] <;> omega) rfl ?_
  refine ⟨rfl, ?_⟩
  repeat' (first | exact Below.refl _ _ | refine bl_set ?_ ?_ | refine bl_alloc ?_ ?_ | (simp; done) | (simp; omega))
theorem mk_bounds (s : Bool) (a d : Nat) (hd : 0 < d) (k : Nat) (h1 : (limbs a).length ≤ k) (h2 : (limbs d).length ≤ k) :
    (limbs (mkRat (sgn s a) d).num.natAbs).length ≤ k ∧ (limbs (mkRat (sgn s a) d).den).length ≤ k := by
  obtain ⟨h3, h4⟩ := mk_le s a d hd
  exact ⟨Nat.le_trans (limbs_len_mono _ _ h3) h1, Nat.le_trans (limbs_len_mono _ _ h4) h2⟩

theorem Num.fr {S : Nat → Prop} {w w' : World} {A : Option Addr} {n c : Nat} {l : List Nat} (h : Num w A n c l) (hf : Fr S w w') (hn : ∀ b i k, S b → w.cell? ⟨b, i, none⟩ ≠ some (.int .u32 k)) : Num w' A n c l := by
  refine ⟨⟨h.rd.1, fun h0 => ?_⟩, h.len, h.cap, h.sm⟩
  obtain ⟨b, o, e, hc⟩ := h.rd.2 h0
  refine ⟨b, o, e, fun j u hu => ?_⟩
  have h1 := hc j u hu
  have hi : ∃ k, u = .int .u32 k := by
    have := List.mem_of_getElem? hu
    obtain ⟨x, _, rfl⟩ := List.mem_map.1 this
    exact ⟨_, rfl⟩
  obtain ⟨k, rfl⟩ := hi
  rw [hf.cell (p := ⟨b, o + j, none⟩) (World.block_lt_of_cell? w _ h1) (fun hs => hn b _ k hs h1)]
  exact h1
theorem no_int3 (a b c : Value) (ha : ∀ k, a ≠ .int .u32 k) (hb : ∀ k, b ≠ .int .u32 k) (hc : ∀ k, c ≠ .int .u32 k) (i : Nat) (k : Int) (e : #[a, b, c][i]? = some (.int .u32 k)) : False := by
  rcases (show i = 0 ∨ i = 1 ∨ i = 2 ∨ 3 ≤ i by omega) with rfl | rfl | rfl | h
  · exact ha k (by simpa using e)
  · exact hb k (by simpa using e)
  · exact hc k (by simpa using e)
  · rw [Array.getElem?_eq_none (by simpa using h)] at e; cases e
theorem fr_set {S : Nat → Prop} {w w1 : World} {p : Addr} {u : Value} (h : Fr S w w1) (hp : S p.block ∨ w.heap.size ≤ p.block) : Fr S w (w1.setCell p u) := h.setCell p u hp
theorem below_drew2 {B : Nat} {a w : World} (h : Below B a w) : Below B a w.drew := ⟨h.os, h.tape, h.output, h.size, h.block⟩
set_option maxRecDepth 100000 in
set_option maxHeartbeats 4000000 in
theorem made_any {w : World} {A A2 : Option Addr} {n c n2 c2 : Nat} {l m : List Nat} (s : Bool) (h : Num w A n c l) (h2 : Num w A2 n2 c2 m) (hb : l.length ≤ 10000000) (hb2 : m.length ≤ 10000000) (hp : 0 < lv m) :
    Calls Tryd.prog 55 #[.bool s, .slice A n c, .slice A2 n2 c2] w fun e w' => ∃ b : RB, e = .returned (b.val (ratNeg (mkRat (sgn s (lv l)) (lv m)))) ∧ RatAt w' b (mkRat (sgn s (lv l)) (lv m)) ∧ Below w.heap.size w w' := by
  have hgd := fun W hW => gcd_num (w := W) (h.below hW) (h2.below hW) hb hb2
  have hq1 := mk_abs s (lv l) (lv m) hp
  have hq2 := mk_den s (lv l) (lv m) hp
  have hq3 := mk_neg s (lv l) (lv m) hp
  have hgp : 0 < Nat.gcd (lv l) (lv m) := Nat.gcd_pos_of_pos_right _ hp
  have hgle : Nat.gcd (lv l) (lv m) ≤ lv m := Nat.le_of_dvd hp (Nat.gcd_dvd_right _ _)
  have hgl : (limbs (Nat.gcd (lv l) (lv m))).length ≤ 10000000 := Nat.le_trans (limbs_len_mono _ _ hgle) (Nat.le_trans (limbs_length_le m h2.sm) hb2)
  generalize mkRat (sgn s (lv l)) (lv m) = q at *
  obtain ⟨g, hg⟩ : ∃ g, Nat.gcd (lv l) (lv m) = g := ⟨_, rfl⟩
  rw [hg] at hgd hq1 hq2 hq3 hgp hgl
  have HGD := Lib.hid hgd
  have HQ1 := Lib.hid hq1
  have HQ2 := Lib.hid hq2
  have HQ3 := Lib.hid hq3
  have H1 := Lib.hid h
  have H2 := Lib.hid h2
  have HP := Lib.hid hp
  clear hgd hq1 hq2 hq3 hg hgle h h2 hp
  go_enter Tryd.func55, Tryd.ntmps55
  go_upto_region 1 with fail
  have hb0 : Below w.heap.size w (w.alloc (.cells #[.bool false, .slice none 0 0, .slice none 0 0] 50)) := (Below.refl _ _).alloc (Nat.le_refl _) _
  have hr0 : (w.alloc (.cells #[.bool false, .slice none 0 0, .slice none 0 0] 50)).heap[w.heap.size]? = some (.cells #[.bool false, .slice none 0 0, .slice none 0 0] 50 (0, 0)) := heap_alloc_new w _
  obtain ⟨w0, hw0⟩ : ∃ x, x = w.alloc (.cells #[.bool false, .slice none 0 0, .slice none 0 0] 50) := ⟨_, rfl⟩
  rw [← hw0] at hb0 hr0 ⊢
  have hwl : w.heap.size < w0.heap.size := lt_of_blk hr0
  have HB0 := Lib.hid hb0
  have HR0 := Lib.hid hr0
  have hgd := HGD.out w0 hb0
  have H1 := Lib.hid (H1.out.below hb0)
  have H2 := Lib.hid (H2.out.below hb0)
  clear hw0 hb0 hr0
  go_upto_region 2 with (go_at_call 35; refine hgd.mono ?_; clear hgd; rintro e w1 ⟨A3, n3, c3, rfl, h3, b1⟩)
  have HB1 := Lib.hid b1
  have H1 := Lib.hid (H1.out.below b1)
  have H2 := Lib.hid (H2.out.below b1)
  have H3 := Lib.hid h3
  have h1l : (limbs 1).length ≤ 100000000 := by rw [limbs_pos 1 (by decide), show 1 / 4294967296 = 0 by decide, limbs_zero]; decide
  clear h3 b1
  by_cases hg1 : g = 1
  · have HG1 := Lib.hid hg1
    go_upto_region 5 with (first | (go_at_call 75; refine (one_any _).mono ?_; rintro e w2 ⟨A4, n4, c4, rfl, h4, b2⟩; have hcm := cmp_num (H3.out.below b2) h4 (by omega) h1l; rw [lv_limbs, lv_limbs, HG1.out, cmp_eq] at hcm) | (go_at_call 14; refine hcm.mono ?_; clear hcm; rintro e w3 ⟨rfl, k3, rfl⟩))
    have HBK := Lib.hid (below_drewN (HB1.out.trans (b2.mono HB1.out.size)) k3)
    have H5 := Lib.hid ((H1.out.below b2).drewN k3)
    have H6 := Lib.hid ((H2.out.below b2).drewN k3)
    have HV5 := Lib.hid (show lv l = q.num.natAbs by rw [HQ1.out, HG1.out, Nat.div_one])
    have HV6 := Lib.hid (show lv m = q.den by rw [HQ2.out, HG1.out, Nat.div_one])
    generalize w2.drewN k3 = w4 at *
    clear h4 b2 hg1
    have hl5 : l.length ≤ 100000000 := by omega
    have hl6 : m.length ≤ 100000000 := by omega
    have hn5 := norm_num H5.out hl5
    have hn6 := fun W hW => norm_num (w := W) (H6.out.below hW) hl6
    rw [HV5.out] at hn5
    rw [HV6.out] at hn6
    have HN6 := Lib.hid hn6
    clear hn6
    go_upto_region 6 with (first | (go_at_call 39; refine hn5.mono ?_; clear hn5; rintro e wa ⟨Aa, na, ca, rfl, ha, ba⟩; have hcall := HN6.out wa ba) | (go_at_call 39; refine hcall.mono ?_; clear hcall; rintro e wb ⟨Ab, nb, cb, rfl, hb', bb⟩))
    have hla := ha.len
    have HBB := Lib.hid (HBK.out.trans ((ba.trans (bb.mono ba.size)).mono HBK.out.size))
    have HA := Lib.hid (ha.below bb)
    have HB' := Lib.hid hb'
    have hsg : ratNeg q = (s && decide (0 < na)) := by
      rw [HQ3.out, ← HQ1.out]
      congr 1
      by_cases hz : q.num.natAbs = 0
      · rw [hz, limbs_zero] at hla
        simp at hla
        rw [decide_eq_false (by omega), decide_eq_false (by omega)]
      · have := (limbs_top _ hz).1
        rw [decide_eq_true (by omega), decide_eq_true (by omega)]
    have hr9 : (wb.alloc (.cells #[.bool false, .slice Aa na ca, .slice Ab nb cb] 50)).heap[w.heap.size]? = some (.cells #[.bool false, .slice none 0 0, .slice none 0 0] 50 (0, 0)) := (alloc_old _ (Nat.lt_of_lt_of_le hwl HBB.out.size)).trans ((HBB.out.block _ hwl).trans HR0.out)
    have hx9 : (wb.alloc (.cells #[.bool false, .slice Aa na ca, .slice Ab nb cb] 50)).heap[wb.heap.size]? = some (.cells #[.bool false, .slice Aa na ca, .slice Ab nb cb] 50 (0, 0)) := heap_alloc_new wb _
    have hb9 : Below wb.heap.size wb (wb.alloc (.cells #[.bool false, .slice Aa na ca, .slice Ab nb cb] 50)) := (Below.refl _ _).alloc (Nat.le_refl _) _
    obtain ⟨w9, hw9⟩ : ∃ x, x = wb.alloc (.cells #[.bool false, .slice Aa na ca, .slice Ab nb cb] 50) := ⟨_, rfl⟩
    rw [← hw9] at hr9 hx9 hb9 ⊢
    obtain ⟨X, hX⟩ : ∃ X, wb.heap.size = X := ⟨_, rfl⟩
    have hXr : w.heap.size < X := by rw [← hX]; exact Nat.lt_of_lt_of_le hwl HBB.out.size
    rw [hX] at hx9 hb9
    have x0 := cell_of_blk hx9 0
    have x1 := cell_of_blk hx9 1
    have x2 := cell_of_blk hx9 2
    have z0 := frozen_of_blk hx9 0
    simp only [List.getElem?_toArray, List.getElem?_cons_zero, List.getElem?_cons_succ] at x0 x1 x2
    have HX9 := Lib.hid hx9
    have HR9 := Lib.hid hr9
    have HB9 := Lib.hid hb9
    have HSG := Lib.hid hsg
    rw [hX]
    clear ha hb' ba bb hw9 hx9 hr9 hb9 hsg hla
    go_cut [] (fun wx => wx = w9.setCell ⟨X, 0, none⟩ (.bool (ratNeg q)))
    case first =>
      cases s
      · go_wp2_with fail
        go_meet
        rw [HSG.out]; rfl
      · by_cases hna : na = 0
        · subst hna
          go_wp2_with fail
          go_meet
          rw [HSG.out]; rfl
        · have hna2 : ((na : Int) > 0) := by omega
          have hna3 : 0 < na := by omega
          go_wp2_with fail
          go_meet
          rw [HSG.out, decide_eq_true hna3]; first | rfl | (simp; done) | (simp; omega)
    case rest =>
    have hx10 : wc.heap[X]? = some (.cells #[.bool (ratNeg q), .slice Aa na ca, .slice Ab nb cb] 50 (0, 0)) := by rw [hcut]; exact set_blk HX9.out 0 _
    have hr10 : wc.heap[w.heap.size]? = some (.cells #[.bool false, .slice none 0 0, .slice none 0 0] 50 (0, 0)) := by rw [hcut]; exact (set_far (by simp; omega) _).trans HR9.out
    have hb10 : Below X wb wc := by rw [hcut]; exact bl_set HB9.out (Nat.le_refl _)
    obtain ⟨w10, rfl⟩ : ∃ x, x = wc := ⟨_, rfl⟩
    have hx2 := cell_of_blk hx10 2
    simp only [List.getElem?_toArray, List.getElem?_cons_zero, List.getElem?_cons_succ] at hx2
    have hX10 := lt_of_blk hx10
    have HX10 := Lib.hid hx10
    have HR10 := Lib.hid hr10
    have hbb10 : Below wb.heap.size wb w10 := by rw [hX]; exact hb10
    have HA := Lib.hid (HA.out.below hbb10)
    have HBN := Lib.hid (HB'.out.below hbb10)
    have HBL := Lib.hid (HBB.out.trans (hbb10.mono HBB.out.size))
    have hnbl : (limbs q.den).length ≤ 100000000 := by have h1 := HB'.out.len; exact HV6.out ▸ Nat.le_trans (limbs_length_le _ H6.out.sm) hl6
    have hcs : ∀ W', Below w10.heap.size w10 W' → W'.cell? ⟨X, 2, none⟩ = some (.slice Ab nb cb) := fun W' h => (h.cell (p := ⟨X, 2, none⟩) hX10).trans hx2
    have HCS := Lib.hid hcs
    have HNBL := Lib.hid hnbl
    clear hx10 hr10 hb10 hcut x0 x1 x2 z0 hbb10 hcs hnbl HB' HX9 HR9 HB9 HBB H5 H6 HBK
    go_upto_region 7 with fail
    go_cut [47] (fun x wx => x = .bool (decide (q.den = 1)) ∧ Below w10.heap.size w10 wx)
    case first =>
      go_region_held3 (fun W' => W'.cell? ⟨X, 2, none⟩ = some (.slice Ab nb cb)) (first | exact HCS.out _ hb21 | exact HCS.out _ hb20 | exact HCS.out _ (below_drew2 (Below.refl _ _)) | exact HCS.out _ (Below.refl _ _)) (first | (go_at_call 75; refine (one_any _).mono ?_; rintro e w20 ⟨A20, n20, c20, rfl, h20, b20⟩; have hb20 := (below_drew2 (Below.refl w10.heap.size w10)).trans b20; have hcm := cmp_num (HBN.out.below hb20) h20 HNBL.out h1l; rw [lv_limbs, lv_limbs] at hcm) | (go_at_call 14; refine hcm.mono ?_; clear hcm; rintro e w21 ⟨rfl, k21, rfl⟩; have hb21 := below_drewN hb20 k21))
      all_goals
        go_wp2_with fail
        go_meet
        exact ⟨congrArg Value.bool (cmp_zero _ _), hb21⟩
    case rest =>
    obtain ⟨rfl, hb11⟩ := hcut
    obtain ⟨w11, rfl⟩ : ∃ x, x = wc := ⟨_, rfl⟩
    have hx11 := (hb11.block X (lt_of_blk HX10.out)).trans HX10.out
    have hr11 := (hb11.block w.heap.size (lt_of_blk HR10.out)).trans HR10.out
    have HA := Lib.hid (HA.out.below hb11)
    have HBN := Lib.hid (HBN.out.below hb11)
    have HBL := Lib.hid (HB0.out.trans ((HBL.out.trans (hb11.mono HBL.out.size)).mono HB0.out.size))
    have x0 := cell_of_blk hx11 0
    have x1 := cell_of_blk hx11 1
    have x2 := cell_of_blk hx11 2
    have z2 := frozen_of_blk hx11 2
    have r0 := cell_of_blk hr11 0
    have r1 := cell_of_blk hr11 1
    have r2 := cell_of_blk hr11 2
    have s0 := frozen_of_blk hr11 0
    have s1 := frozen_of_blk hr11 1
    have s2 := frozen_of_blk hr11 2
    simp only [List.getElem?_toArray, List.getElem?_cons_zero, List.getElem?_cons_succ] at x0 x1 x2 r0 r1 r2
    have hni : ∀ b i k, (b = w.heap.size ∨ b = X) → w11.cell? ⟨b, i, none⟩ ≠ some (.int .u32 k) := by
      intro b i k hb e
      rcases hb with rfl | rfl
      · rw [cell_of_blk hr11 i] at e
        exact no_int3 _ _ _ (by simp) (by simp) (by simp) i k e
      · rw [cell_of_blk hx11 i] at e
        exact no_int3 _ _ _ (by simp) (by simp) (by simp) i k e
    have HNI := Lib.hid hni
    have hne : w.heap.size ≠ X := by omega
    clear hni hb11 hx11 hr11 HX10 HR10 hx2 hX10 HCS hX
    by_cases hd1 : q.den = 1
    · have HD1 := Lib.hid hd1
      rw [decide_eq_true hd1]
      clear hd1
      go_wp2_with fail
      refine bodyPost_ret (v := .agg #[.bool (ratNeg q), .slice Aa na ca, .slice none 0 0]) (by simp [results, Tryd.results55, go_sem, x0, x1, x2, r0, r1, r2, hne, Ne.symm hne]) rfl ?_
      refine ⟨⟨Aa, na, ca, none, 0, 0⟩, rfl, ⟨HA.out.fr (S := fun b => b = w.heap.size ∨ b = X) ?_ HNI.out, ?_⟩, ?_⟩
      · skip
        repeat' (first | exact Fr.refl _ _ | refine fr_set ?_ ?_ | exact .inl (.inl rfl) | exact .inl (.inr rfl))
      · unfold ratDen
        rw [if_pos HD1.out]
        exact Num.nil_ _
      · skip
        repeat' (first | exact HBL.out | refine bl_set ?_ ?_ | (simp; done) | (simp; omega))
    · have HD1 := Lib.hid hd1
      rw [decide_eq_false hd1]
      clear hd1
      go_wp2_with fail
      refine bodyPost_ret (v := .agg #[.bool (ratNeg q), .slice Aa na ca, .slice Ab nb cb]) (by simp [results, Tryd.results55, go_sem, x0, x1, x2, r0, r1, r2, hne, Ne.symm hne]) rfl ?_
      refine ⟨⟨Aa, na, ca, Ab, nb, cb⟩, rfl, ⟨HA.out.fr (S := fun b => b = w.heap.size ∨ b = X) ?_ HNI.out, ?_⟩, ?_⟩
      · skip
        repeat' (first | exact Fr.refl _ _ | refine fr_set ?_ ?_ | exact .inl (.inl rfl) | exact .inl (.inr rfl))
      · unfold ratDen
        rw [if_neg HD1.out]
        refine HBN.out.fr (S := fun b => b = w.heap.size ∨ b = X) ?_ HNI.out
        repeat' (first | exact Fr.refl _ _ | refine fr_set ?_ ?_ | exact .inl (.inl rfl) | exact .inl (.inr rfl))
      · skip
        repeat' (first | exact HBL.out | refine bl_set ?_ ?_ | (simp; done) | (simp; omega))
  · have hne : ¬ (cmpN g 1 = 0) := by
      rcases Nat.lt_or_gt_of_ne hg1 with h | h
      · rw [cmp_lt h]; decide
      · rw [cmp_gt h]; decide
    have hne2 : (cmpN g 1 != 0) = true := by rw [bne_iff_ne]; exact hne
    obtain ⟨cv, hcv⟩ : ∃ cv, cmpN g 1 = cv := ⟨_, rfl⟩
    rw [hcv] at hne2
    have HCV := Lib.hid hcv
    have hgl8 : (limbs g).length ≤ 100000000 := by omega
    have hgp2 : 0 < lv (limbs g) := by rw [lv_limbs]; exact hgp
    clear hne hcv
    go_upto_region 3 with (first | (go_at_call 75; refine (one_any _).mono ?_; rintro e w2 ⟨A4, n4, c4, rfl, h4, b2⟩; have hcm := cmp_num (H3.out.below b2) h4 hgl8 h1l; rw [lv_limbs, lv_limbs, HCV.out] at hcm) | (go_at_call 14; refine hcm.mono ?_; clear hcm; rintro e w3 ⟨rfl, k3, rfl⟩))
    have HBJ := Lib.hid (below_drewN (HB1.out.trans (b2.mono HB1.out.size)) k3)
    have H1 := Lib.hid ((H1.out.below b2).drewN k3)
    have H2 := Lib.hid ((H2.out.below b2).drewN k3)
    have H3 := Lib.hid ((H3.out.below b2).drewN k3)
    generalize w2.drewN k3 = w3 at *
    clear h4 b2 hne2
    have hd1 := divmod_num H1.out H3.out (by omega) hgl8 hgp2
    have hd2 := fun W hW => divmod_num (w := W) (H2.out.below hW) (H3.out.below hW) (by omega) hgl8 hgp2
    rw [lv_limbs] at hd1 hd2
    have HD2 := Lib.hid hd2
    clear hd2
    go_upto_region 5 with (first | (go_at_call 11; refine hd1.mono ?_; clear hd1; rintro e w4 ⟨A5, n5, c5, A6, n6, c6, rfl, h5, h6, b4⟩; have hcall := HD2.out w4 b4) | (go_at_call 11; refine hcall.mono ?_; clear hcall; rintro e w5 ⟨A7, n7, c7, A8, n8, c8, rfl, h7, h8, b5⟩))
    have HBK := Lib.hid ((HBJ.out.trans (b4.mono HBJ.out.size)).trans (b5.mono (Nat.le_trans HBJ.out.size b4.size)))
    have H5 := Lib.hid (h5.below b5)
    have H6 := Lib.hid h7
    have HV5 := Lib.hid (show lv (limbs (lv l / g)) = q.num.natAbs by rw [HQ1.out, lv_limbs])
    have HV6 := Lib.hid (show lv (limbs (lv m / g)) = q.den by rw [HQ2.out, lv_limbs])
    have hl5 : (limbs (lv l / g)).length ≤ 100000000 := Nat.le_trans (limbs_len_mono _ _ (Nat.div_le_self _ _)) (Nat.le_trans (limbs_length_le l H1.out.sm) (by omega))
    have hl6 : (limbs (lv m / g)).length ≤ 100000000 := Nat.le_trans (limbs_len_mono _ _ (Nat.div_le_self _ _)) (Nat.le_trans (limbs_length_le m H2.out.sm) (by omega))
    clear h5 h6 h7 h8 b4 b5 hgp2
    have hn5 := norm_num H5.out hl5
    have hn6 := fun W hW => norm_num (w := W) (H6.out.below hW) hl6
    rw [HV5.out] at hn5
    rw [HV6.out] at hn6
    have HN6 := Lib.hid hn6
    clear hn6
    go_upto_region 6 with (first | (go_at_call 39; refine hn5.mono ?_; clear hn5; rintro e wa ⟨Aa, na, ca, rfl, ha, ba⟩; have hcall := HN6.out wa ba) | (go_at_call 39; refine hcall.mono ?_; clear hcall; rintro e wb ⟨Ab, nb, cb, rfl, hb', bb⟩))
    have hla := ha.len
    have HBB := Lib.hid (HBK.out.trans ((ba.trans (bb.mono ba.size)).mono HBK.out.size))
    have HA := Lib.hid (ha.below bb)
    have HB' := Lib.hid hb'
    have hsg : ratNeg q = (s && decide (0 < na)) := by
      rw [HQ3.out, ← HQ1.out]
      congr 1
      by_cases hz : q.num.natAbs = 0
      · rw [hz, limbs_zero] at hla
        simp at hla
        rw [decide_eq_false (by omega), decide_eq_false (by omega)]
      · have := (limbs_top _ hz).1
        rw [decide_eq_true (by omega), decide_eq_true (by omega)]
    have hr9 : (wb.alloc (.cells #[.bool false, .slice Aa na ca, .slice Ab nb cb] 50)).heap[w.heap.size]? = some (.cells #[.bool false, .slice none 0 0, .slice none 0 0] 50 (0, 0)) := (alloc_old _ (Nat.lt_of_lt_of_le hwl HBB.out.size)).trans ((HBB.out.block _ hwl).trans HR0.out)
    have hx9 : (wb.alloc (.cells #[.bool false, .slice Aa na ca, .slice Ab nb cb] 50)).heap[wb.heap.size]? = some (.cells #[.bool false, .slice Aa na ca, .slice Ab nb cb] 50 (0, 0)) := heap_alloc_new wb _
    have hb9 : Below wb.heap.size wb (wb.alloc (.cells #[.bool false, .slice Aa na ca, .slice Ab nb cb] 50)) := (Below.refl _ _).alloc (Nat.le_refl _) _
    obtain ⟨w9, hw9⟩ : ∃ x, x = wb.alloc (.cells #[.bool false, .slice Aa na ca, .slice Ab nb cb] 50) := ⟨_, rfl⟩
    rw [← hw9] at hr9 hx9 hb9 ⊢
    obtain ⟨X, hX⟩ : ∃ X, wb.heap.size = X := ⟨_, rfl⟩
    have hXr : w.heap.size < X := by rw [← hX]; exact Nat.lt_of_lt_of_le hwl HBB.out.size
    rw [hX] at hx9 hb9
    have x0 := cell_of_blk hx9 0
    have x1 := cell_of_blk hx9 1
    have x2 := cell_of_blk hx9 2
    have z0 := frozen_of_blk hx9 0
    simp only [List.getElem?_toArray, List.getElem?_cons_zero, List.getElem?_cons_succ] at x0 x1 x2
    have HX9 := Lib.hid hx9
    have HR9 := Lib.hid hr9
    have HB9 := Lib.hid hb9
    have HSG := Lib.hid hsg
    rw [hX]
    clear ha hb' ba bb hw9 hx9 hr9 hb9 hsg hla
    go_cut [] (fun wx => wx = w9.setCell ⟨X, 0, none⟩ (.bool (ratNeg q)))
    case first =>
      cases s
      · go_wp2_with fail
        go_meet
        rw [HSG.out]; rfl
      · by_cases hna : na = 0
        · subst hna
          go_wp2_with fail
          go_meet
          rw [HSG.out]; rfl
        · have hna2 : ((na : Int) > 0) := by omega
          have hna3 : 0 < na := by omega
          go_wp2_with fail
          go_meet
          rw [HSG.out, decide_eq_true hna3]; first | rfl | (simp; done) | (simp; omega)
    case rest =>
    have hx10 : wc.heap[X]? = some (.cells #[.bool (ratNeg q), .slice Aa na ca, .slice Ab nb cb] 50 (0, 0)) := by rw [hcut]; exact set_blk HX9.out 0 _
    have hr10 : wc.heap[w.heap.size]? = some (.cells #[.bool false, .slice none 0 0, .slice none 0 0] 50 (0, 0)) := by rw [hcut]; exact (set_far (by simp; omega) _).trans HR9.out
    have hb10 : Below X wb wc := by rw [hcut]; exact bl_set HB9.out (Nat.le_refl _)
    obtain ⟨w10, rfl⟩ : ∃ x, x = wc := ⟨_, rfl⟩
    have hx2 := cell_of_blk hx10 2
    simp only [List.getElem?_toArray, List.getElem?_cons_zero, List.getElem?_cons_succ] at hx2
    have hX10 := lt_of_blk hx10
    have HX10 := Lib.hid hx10
    have HR10 := Lib.hid hr10
    have hbb10 : Below wb.heap.size wb w10 := by rw [hX]; exact hb10
    have HA := Lib.hid (HA.out.below hbb10)
    have HBN := Lib.hid (HB'.out.below hbb10)
    have HBL := Lib.hid (HBB.out.trans (hbb10.mono HBB.out.size))
    have hnbl : (limbs q.den).length ≤ 100000000 := by have h1 := HB'.out.len; exact HV6.out ▸ Nat.le_trans (limbs_length_le _ H6.out.sm) hl6
    have hcs : ∀ W', Below w10.heap.size w10 W' → W'.cell? ⟨X, 2, none⟩ = some (.slice Ab nb cb) := fun W' h => (h.cell (p := ⟨X, 2, none⟩) hX10).trans hx2
    have HCS := Lib.hid hcs
    have HNBL := Lib.hid hnbl
    clear hx10 hr10 hb10 hcut x0 x1 x2 z0 hbb10 hcs hnbl HB' HX9 HR9 HB9 HBB H5 H6 HBK
    go_upto_region 7 with fail
    go_cut [47] (fun x wx => x = .bool (decide (q.den = 1)) ∧ Below w10.heap.size w10 wx)
    case first =>
      go_region_held3 (fun W' => W'.cell? ⟨X, 2, none⟩ = some (.slice Ab nb cb)) (first | exact HCS.out _ hb21 | exact HCS.out _ hb20 | exact HCS.out _ (below_drew2 (Below.refl _ _)) | exact HCS.out _ (Below.refl _ _)) (first | (go_at_call 75; refine (one_any _).mono ?_; rintro e w20 ⟨A20, n20, c20, rfl, h20, b20⟩; have hb20 := (below_drew2 (Below.refl w10.heap.size w10)).trans b20; have hcm := cmp_num (HBN.out.below hb20) h20 HNBL.out h1l; rw [lv_limbs, lv_limbs] at hcm) | (go_at_call 14; refine hcm.mono ?_; clear hcm; rintro e w21 ⟨rfl, k21, rfl⟩; have hb21 := below_drewN hb20 k21))
      all_goals
        go_wp2_with fail
        go_meet
        exact ⟨congrArg Value.bool (cmp_zero _ _), hb21⟩
    case rest =>
    obtain ⟨rfl, hb11⟩ := hcut
    obtain ⟨w11, rfl⟩ : ∃ x, x = wc := ⟨_, rfl⟩
    have hx11 := (hb11.block X (lt_of_blk HX10.out)).trans HX10.out
    have hr11 := (hb11.block w.heap.size (lt_of_blk HR10.out)).trans HR10.out
    have HA := Lib.hid (HA.out.below hb11)
    have HBN := Lib.hid (HBN.out.below hb11)
    have HBL := Lib.hid (HB0.out.trans ((HBL.out.trans (hb11.mono HBL.out.size)).mono HB0.out.size))
    have x0 := cell_of_blk hx11 0
    have x1 := cell_of_blk hx11 1
    have x2 := cell_of_blk hx11 2
    have z2 := frozen_of_blk hx11 2
    have r0 := cell_of_blk hr11 0
    have r1 := cell_of_blk hr11 1
    have r2 := cell_of_blk hr11 2
    have s0 := frozen_of_blk hr11 0
    have s1 := frozen_of_blk hr11 1
    have s2 := frozen_of_blk hr11 2
    simp only [List.getElem?_toArray, List.getElem?_cons_zero, List.getElem?_cons_succ] at x0 x1 x2 r0 r1 r2
    have hni : ∀ b i k, (b = w.heap.size ∨ b = X) → w11.cell? ⟨b, i, none⟩ ≠ some (.int .u32 k) := by
      intro b i k hb e
      rcases hb with rfl | rfl
      · rw [cell_of_blk hr11 i] at e
        exact no_int3 _ _ _ (by simp) (by simp) (by simp) i k e
      · rw [cell_of_blk hx11 i] at e
        exact no_int3 _ _ _ (by simp) (by simp) (by simp) i k e
    have HNI := Lib.hid hni
    have hne : w.heap.size ≠ X := by omega
    clear hni hb11 hx11 hr11 HX10 HR10 hx2 hX10 HCS hX
    by_cases hd1 : q.den = 1
    · have HD1 := Lib.hid hd1
      rw [decide_eq_true hd1]
      clear hd1
      go_wp2_with fail
      refine bodyPost_ret (v := .agg #[.bool (ratNeg q), .slice Aa na ca, .slice none 0 0]) (by simp [results, Tryd.results55, go_sem, x0, x1, x2, r0, r1, r2, hne, Ne.symm hne]) rfl ?_
      refine ⟨⟨Aa, na, ca, none, 0, 0⟩, rfl, ⟨HA.out.fr (S := fun b => b = w.heap.size ∨ b = X) ?_ HNI.out, ?_⟩, ?_⟩
      · skip
        repeat' (first | exact Fr.refl _ _ | refine fr_set ?_ ?_ | exact .inl (.inl rfl) | exact .inl (.inr rfl))
      · unfold ratDen
        rw [if_pos HD1.out]
        exact Num.nil_ _
      · skip
        repeat' (first | exact HBL.out | refine bl_set ?_ ?_ | (simp; done) | (simp; omega))
    · have HD1 := Lib.hid hd1
      rw [decide_eq_false hd1]
      clear hd1
      go_wp2_with fail
      refine bodyPost_ret (v := .agg #[.bool (ratNeg q), .slice Aa na ca, .slice Ab nb cb]) (by simp [results, Tryd.results55, go_sem, x0, x1, x2, r0, r1, r2, hne, Ne.symm hne]) rfl ?_
      refine ⟨⟨Aa, na, ca, Ab, nb, cb⟩, rfl, ⟨HA.out.fr (S := fun b => b = w.heap.size ∨ b = X) ?_ HNI.out, ?_⟩, ?_⟩
      · skip
        repeat' (first | exact Fr.refl _ _ | refine fr_set ?_ ?_ | exact .inl (.inl rfl) | exact .inl (.inr rfl))
      · unfold ratDen
        rw [if_neg HD1.out]
        refine HBN.out.fr (S := fun b => b = w.heap.size ∨ b = X) ?_ HNI.out
        repeat' (first | exact Fr.refl _ _ | refine fr_set ?_ ?_ | exact .inl (.inl rfl) | exact .inl (.inr rfl))
      · skip
        repeat' (first | exact HBL.out | refine bl_set ?_ ?_ | (simp; done) | (simp; omega))
end Go.Proofs.YtlbbbafehhdpnaaDoor

namespace Go.Proofs.YtlbbbafehhdpnaaDoor
open Go.RowKit
set_option linter.unusedVariables false
set_option linter.unusedSimpArgs false

/-- the row of the difference behind i limbs, and what is owed. -/
def subL (x y o : Nat) : Nat := (x + 8589934592 - o - y) % 4294967296
def subO (x y o : Nat) : Nat := if x < o + y then 1 else 0
def subP (xs ys : List Nat) : Nat → List Nat × Nat
  | 0 => ([], 0)
  | i + 1 => ((subP xs ys i).1 ++ [subL (xs.getD i 0) (ys.getD i 0) (subP xs ys i).2], subO (xs.getD i 0) (ys.getD i 0) (subP xs ys i).2)
structure SubOk (xs ys : List Nat) (i : Nat) : Prop where
  len : (subP xs ys i).1.length = i
  sm : small (subP xs ys i).1
  owed : (subP xs ys i).2 ≤ 1
  val : lv (subP xs ys i).1 + lv (ys.take i) = lv (xs.take i) + 2 ^ (32 * i) * (subP xs ys i).2
theorem lv_takeE (l : List Nat) (k : Nat) : lv (l.take (k + 1)) = lv (l.take k) + 2 ^ (32 * k) * l.getD k 0 := by
  rcases Nat.lt_or_ge k l.length with h | h
  · exact lv_takeD l k h
  · rw [List.take_of_length_le (by omega), List.take_of_length_le h, List.getD_eq_getElem?_getD, List.getElem?_eq_none h]
    simp
theorem sub_limb (x y o : Nat) (hx : x < 4294967296) (hy : y < 4294967296) (ho : o ≤ 1) : subL x y o + (o + y) = x + 4294967296 * subO x y o := by
  unfold subL subO
  split <;> omega
theorem subL_lt (x y o : Nat) : subL x y o < 4294967296 := Nat.mod_lt _ (by decide)
theorem subO_le (x y o : Nat) : subO x y o ≤ 1 := by unfold subO; split <;> omega
theorem subP_succ (xs ys : List Nat) (i : Nat) : subP xs ys (i + 1) = ((subP xs ys i).1 ++ [subL (xs.getD i 0) (ys.getD i 0) (subP xs ys i).2], subO (xs.getD i 0) (ys.getD i 0) (subP xs ys i).2) := rfl
theorem sub_aux (P R o y x o' S X Y : Nat) (hv : S + Y = X + P * o) (hl : R + (o + y) = x + 4294967296 * o') : S + P * R + (Y + P * y) = X + P * x + P * 4294967296 * o' := by
  have e : P * (R + (o + y)) = P * (x + 4294967296 * o') := by rw [hl]
  rw [Nat.mul_add, Nat.mul_add, Nat.mul_add, ← Nat.mul_assoc] at e
  omega
theorem lv_one (a : Nat) : lv [a] = a := by simp [lv]
theorem sub_ok (xs ys : List Nat) (hx : small xs) (hy : small ys) (i : Nat) : SubOk xs ys i := by
  induction i with
  | zero => exact ⟨rfl, small_nil, Nat.zero_le _, by simp [subP, lv]⟩
  | succ i h =>
    have hl := sub_limb (xs.getD i 0) (ys.getD i 0) (subP xs ys i).2 (getD_lt hx i) (getD_lt hy i) h.owed
    have ha := sub_aux (2 ^ (32 * i)) _ _ _ _ _ _ _ _ h.val hl
    refine ⟨by rw [subP_succ, List.length_append, h.len]; rfl, ?_, by rw [subP_succ]; exact subO_le _ _ _, ?_⟩
    · rw [subP_succ]
      exact small_append.2 ⟨h.sm, by intro x hx; rw [List.mem_singleton] at hx; rw [hx]; exact subL_lt _ _ _⟩
    · rw [subP_succ, lv_append, h.len, lv_takeE ys i, lv_takeE xs i, pow_succ32, lv_one]
      exact ha
theorem sub_end (xs ys : List Nat) (hx : small xs) (hy : small ys) (h : lv ys ≤ lv xs) : lv (subP xs ys xs.length).1 = lv xs - lv ys := by
  have ho := sub_ok xs ys hx hy xs.length
  have hv := ho.val
  have hl := lv_lt _ ho.sm
  have hxl := lv_lt xs hx
  rw [ho.len] at hl
  rw [List.take_of_length_le (Nat.le_refl xs.length)] at hv
  have e : lv ys = lv (ys.take xs.length) := by
    have h1 := congrArg lv (List.take_append_drop xs.length ys)
    rw [lv_append] at h1
    rcases Nat.lt_or_ge xs.length ys.length with hlt | hge
    · rw [List.length_take, Nat.min_eq_left (by omega)] at h1
      rcases Nat.eq_zero_or_pos (lv (ys.drop xs.length)) with h0 | h0
      · rw [h0, Nat.mul_zero, Nat.add_zero] at h1; exact h1.symm
      · have : 2 ^ (32 * xs.length) * 1 ≤ 2 ^ (32 * xs.length) * lv (ys.drop xs.length) := Nat.mul_le_mul_left _ h0
        omega
    · rw [List.take_of_length_le hge]
  rw [← e] at hv
  have hw := ho.owed
  rcases (show (subP xs ys xs.length).2 = 0 ∨ (subP xs ys xs.length).2 = 1 by omega) with h0 | h0
  · rw [h0] at hv; omega
  · rw [h0] at hv; omega
theorem sub_row (P : List Nat) (m i y : Nat) (hP : P.length = i) (hi : i < m) : (P ++ List.replicate (m - i) 0).set i y = (P ++ [y]) ++ List.replicate (m - (i + 1)) 0 := by
  obtain ⟨k, hk⟩ : ∃ k, m - i = k + 1 := ⟨m - (i + 1), by omega⟩
  rw [hk, show m - (i + 1) = k by omega, List.set_append_right _ _ (by omega), hP, Nat.sub_self, List.replicate_succ, List.set_cons_zero, List.append_assoc]
  rfl
/-- one limb as the code reckons it. -/
theorem sub_code (x y o : Nat) (hx : x < 4294967296) (hy : y < 4294967296) (ho : o ≤ 1) : ((subL x y o : Nat) : Int) = ((x : Int) - (o : Int) - (y : Int)) % 4294967296 := by unfold subL; omega

theorem cmp_nonneg {a b : Nat} (h : b ≤ a) : ¬ (cmpN a b < 0) := by
  rcases Nat.eq_or_lt_of_le h with rfl | hlt
  · rw [cmp_eq]; decide
  · rw [cmp_gt hlt]; decide
set_option maxRecDepth 100000 in
theorem sub_no {w : World} {A A2 : Option Addr} {n c n2 c2 : Nat} {l m : List Nat} (h : Num w A n c l) (h2 : Num w A2 n2 c2 m) (hb : l.length ≤ 100000000) (hb2 : m.length ≤ 100000000) (hlt : lv l < lv m) :
    Calls Tryd.prog 74 #[.slice A n c, .slice A2 n2 c2] w fun e w' => e = .returned (.tuple #[.slice none 0 0, .bool false]) ∧ ∃ q, w' = w.drewN q := by
  have hc := cmp_num h h2 hb hb2
  rw [cmp_lt hlt] at hc
  clear h h2 hlt
  go_enter Tryd.func74, Tryd.ntmps74
  go_wp2_with (go_at_call 14; refine hc.mono ?_; clear hc; rintro e w1 ⟨rfl, q, rfl⟩)
  go_ret2
  exact ⟨rfl, _, rfl⟩

set_option maxRecDepth 100000 in
set_option maxHeartbeats 4000000 in
theorem sub_yes {w : World} {A A2 : Option Addr} {n c n2 c2 : Nat} {l m : List Nat} (h : Num w A n c l) (h2 : Num w A2 n2 c2 m) (hb : l.length ≤ 100000000) (hb2 : m.length ≤ 100000000) (hle : lv m ≤ lv l) :
    Calls Tryd.prog 74 #[.slice A n c, .slice A2 n2 c2] w fun e w' => ∃ A' n' c', e = .returned (.tuple #[.slice A' n' c', .bool true]) ∧ Num w' A' n' c' (limbs (lv l - lv m)) ∧ Below w.heap.size w w' := by
  obtain ⟨i0, hi, hz0, hz1, hz2⟩ := info_parts info_u32
  have hc := cmp_num h h2 hb hb2
  have hcv := cmp_nonneg hle
  obtain ⟨cv, hce⟩ : ∃ cv, cmpN (lv l) (lv m) = cv := ⟨_, rfl⟩
  rw [hce] at hc hcv
  have hend := sub_end l m h.sm h2.sm hle
  have hok := sub_ok l m h.sm h2.sm
  have hln := h.len
  have hmn := h2.len
  rw [hln] at hend
  have hnb : n ≤ 100000000 := by omega
  have hmb : n2 ≤ 100000000 := by omega
  have HEND := Lib.hid hend
  have HOK := Lib.hid hok
  have HLN := Lib.hid hln
  have HMN := Lib.hid hmn
  have H1 := Lib.hid h
  have H2 := Lib.hid h2
  clear hce hend hok hle h h2 hln hmn hb hb2
  go_enter Tryd.func74, Tryd.ntmps74
  go_upto_region 3 with (go_at_call 14; refine hc.mono ?_; clear hc; rintro e w1 ⟨rfl, q, rfl⟩)
  obtain ⟨w1, hw1⟩ : ∃ x, x = w.drewN q := ⟨_, rfl⟩
  rw [← hw1]
  have H1 := Lib.hid (show Num w1 A n c l by rw [hw1]; exact H1.out.drewN q)
  have H2 := Lib.hid (show Num w1 A2 n2 c2 m by rw [hw1]; exact H2.out.drewN q)
  have HB1 := Lib.hid (show Below w.heap.size w w1 by rw [hw1]; exact below_drewN (Below.refl _ _) q)
  clear hw1
  go_wp2_with (at_make; refine make1 w1.heap.size w1 w1 rfl _ _ 22 rfl 25 i0 (.int .u32 0) 4 Tryd.underlying22 hi hz0 hz1 hz2 rfl (by decide) .i64 .i64 (n : Int) (n : Int) n rfl rfl (by omega) (by omega) (by omega) _ rfl (Nat.le_refl _) (Below.refl _ _) ?_)
  intro w3 hown3 hb3 _
  have hblk := full_blk hown3
  rw [lw_zeros] at hblk
  have hl0 : LRow w1.heap.size w1 w3 ((subP l m 0).1 ++ List.replicate (n - 0) 0) := ⟨hblk, hb3⟩
  have HL0 := Lib.hid hl0
  clear hown3 hb3 hblk hl0
  go_wp2_with fail
  go_loopw [7, 20] (fun o i wr => ∃ q : Nat, q ≤ n ∧ i = .int .i64 (q : Int) ∧ o = .int .i64 ((subP l m q).2 : Nat) ∧ LRow w1.heap.size w1 wr ((subP l m q).1 ++ List.replicate (n - q) 0)) (fun _ i _ => n - (intOf i).toNat)
  case atStart => exact ⟨0, Nat.zero_le _, rfl, rfl, HL0.out⟩
  case round =>
    obtain ⟨q, hq, rfl, rfl, hst⟩ := hrel
    have hgo := HOK.out q
    have hgl := hgo.len
    have hsm := hgo.sm
    by_cases hlt : q < n
    · obtain ⟨b1, o1, rfl, x0⟩ := (H1.out.rd.below hst.bel).limb q hlt HLN.out
      have hx32 := getD_lt H1.out.sm q
      have hy32 := getD_lt H2.out.sm q
      have ho1 := hgo.owed
      have hrl : ((subP l m q).1 ++ List.replicate (n - q) 0).length = n := by rw [List.length_append, List.length_replicate, hgl]; omega
      obtain ⟨z0, z1⟩ := hst.cell q (by rw [hrl]; exact hlt)
      have hnx : subP l m (q + 1) = ((subP l m q).1 ++ [subL (l.getD q 0) (m.getD q 0) (subP l m q).2], subO (l.getD q 0) (m.getD q 0) (subP l m q).2) := rfl
      have hyc : q < n2 → ∃ b off, A2 = some ⟨b, off, none⟩ ∧ wr.cell? ⟨b, off + q, none⟩ = some (.int .u32 ((m.getD q 0 : Nat) : Int)) := fun hq2 => (H2.out.rd.below hst.bel).limb q hq2 HMN.out
      have hy0 : n2 ≤ q → m.getD q 0 = 0 := fun hq2 => by rw [List.getD_eq_getElem?_getD, List.getElem?_eq_none (by rw [HMN.out]; exact hq2)]; rfl
      obtain ⟨z, hz⟩ : ∃ z, ((subP l m q).1 ++ List.replicate (n - q) 0).getD q 0 = z := ⟨_, rfl⟩
      rw [hz] at z0
      generalize l.getD q 0 = x at *
      generalize m.getD q 0 = y at *
      generalize subP l m q = st at *
      obtain ⟨t, o⟩ := st
      simp only at hst hgl ho1 hnx
      have HST := Lib.hid hst
      clear hst hgo hrl hsm hz
      by_cases hq2 : q < n2
      · obtain ⟨b2, o2, rfl, y0⟩ := hyc hq2
        have HNX := Lib.hid hnx
        clear hyc hy0 hnx
        have hst := HST.out.set (Nat.le_refl _) q (subL x y o)
        rw [sub_row _ n q _ hgl hlt] at hst
        by_cases hneg : x < o + y
        · have hdn : (x : Int) - (o : Int) - (y : Int) < 0 := by omega
          rw [show ((subL x y o : Nat) : Int) = ((x : Int) - (o : Int) - (y : Int)) % 4294967296 by unfold subL; omega] at hst
          have HST2 := Lib.hid hst
          clear hst
          go_wp2_with fail
          go_roundw
          case rel => exact ⟨q + 1, by omega, by go_num, by rw [HNX.out]; simp only [subO, if_pos hneg]; rfl, by rw [HNX.out]; exact HST2.out⟩
          case measure => simp [intOf]; omega
        · have hdn : ¬ ((x : Int) - (o : Int) - (y : Int) < 0) := by omega
          rw [show ((subL x y o : Nat) : Int) = (x : Int) - (o : Int) - (y : Int) by unfold subL; omega] at hst
          have HST2 := Lib.hid hst
          clear hst
          go_wp2_with fail
          go_roundw
          case rel => exact ⟨q + 1, by omega, by go_num, by rw [HNX.out]; simp only [subO, if_neg hneg]; rfl, by rw [HNX.out]; exact HST2.out⟩
          case measure => simp [intOf]; omega
      · obtain rfl := hy0 (by omega)
        have HNX := Lib.hid hnx
        clear hyc hy0 hnx
        have zlt : 0 < 4294967296 := by decide
        have hst := HST.out.set (Nat.le_refl _) q (subL x 0 o)
        rw [sub_row _ n q _ hgl hlt] at hst
        by_cases hneg : x < o + 0
        · have hdn : (x : Int) - (o : Int) < 0 := by omega
          rw [show ((subL x 0 o : Nat) : Int) = ((x : Int) - (o : Int)) % 4294967296 by unfold subL; omega] at hst
          have HST2 := Lib.hid hst
          clear hst
          go_wp2_with fail
          go_roundw
          case rel => exact ⟨q + 1, by omega, by go_num, by rw [HNX.out]; simp only [subO, if_pos hneg]; rfl, by rw [HNX.out]; exact HST2.out⟩
          case measure => simp [intOf]; omega
        · have hdn : ¬ ((x : Int) - (o : Int) < 0) := by omega
          rw [show ((subL x 0 o : Nat) : Int) = (x : Int) - (o : Int) by unfold subL; omega] at hst
          have HST2 := Lib.hid hst
          clear hst
          go_wp2_with fail
          go_roundw
          case rel => exact ⟨q + 1, by omega, by go_num, by rw [HNX.out]; simp only [subO, if_neg hneg]; rfl, by rw [HNX.out]; exact HST2.out⟩
          case measure => simp [intOf]; omega
    · obtain rfl : q = n := by omega
      rw [Nat.sub_self, List.replicate_zero, List.append_nil] at hst
      have hrd := hst.rd
      rw [hgl] at hrd
      have hnm := norm_any _ (some ⟨w1.heap.size, 0, none⟩) q q wr hgl (Nat.le_refl _) (by omega) hrd hsm
      rw [HEND.out] at hnm
      have HNM := Lib.hid hnm
      have HBW := Lib.hid (HB1.out.trans (hst.bel.mono HB1.out.size))
      clear hrd hnm hst hgo hsm hgl
      go_wp2_with (go_at_call 39; refine HNM.out.mono ?_; rintro e w9 ⟨v9, rfl, ho9, hb9⟩; obtain ⟨A9, c9, rfl, h9⟩ := Num.of (N := 0) ho9 (limbs_small _))
      go_ret2
      exact ⟨_, _, _, rfl, h9, HBW.out.trans (hb9.mono HBW.out.size)⟩
end Go.Proofs.YtlbbbafehhdpnaaDoor

namespace Go.Proofs.YtlbbbafehhdpnaaDoor
open Go.RowKit
set_option linter.unusedVariables false
set_option linter.unusedSimpArgs false

/-- how long a number's naturals are at most. -/
structure RatLe (q : Rat) (k : Nat) : Prop where
  num : (limbs q.num.natAbs).length ≤ k
  den : (limbs q.den).length ≤ k
theorem limbs_lt (N : Nat) : N < 2 ^ (32 * (limbs N).length) := by
  have := lv_lt (limbs N) (limbs_small N)
  rwa [lv_limbs] at this
theorem len_mul (x y a b : Nat) (hx : (limbs x).length ≤ a) (hy : (limbs y).length ≤ b) : (limbs (x * y)).length ≤ a + b := by
  refine limbs_len_le ?_
  have h1 : x < 2 ^ (32 * a) := Nat.lt_of_lt_of_le (limbs_lt x) (Nat.pow_le_pow_right (by decide) (by omega))
  have h2 : y < 2 ^ (32 * b) := Nat.lt_of_lt_of_le (limbs_lt y) (Nat.pow_le_pow_right (by decide) (by omega))
  rw [Nat.mul_add, Nat.pow_add]
  exact Nat.mul_lt_mul_of_lt_of_le h1 (Nat.le_of_lt h2) (Nat.pow_pos (by decide))
theorem len_add (x y k : Nat) (hx : (limbs x).length ≤ k) (hy : (limbs y).length ≤ k) (M : Nat) (h : M ≤ x + y) : (limbs M).length ≤ k + 1 := by
  refine limbs_len_le ?_
  have h1 : x < 2 ^ (32 * k) := Nat.lt_of_lt_of_le (limbs_lt x) (Nat.pow_le_pow_right (by decide) (by omega))
  have h2 : y < 2 ^ (32 * k) := Nat.lt_of_lt_of_le (limbs_lt y) (Nat.pow_le_pow_right (by decide) (by omega))
  rw [show 2 ^ (32 * (k + 1)) = 2 ^ (32 * k) * 4294967296 from pow_succ32 _]
  generalize 2 ^ (32 * k) = P at *
  omega
theorem add_le {p q : Rat} {a b : Nat} (hp : RatLe p a) (hq : RatLe q b) : RatLe (p + q) (a + b + 1) := by
  have hd : 0 < p.den * q.den := Nat.mul_pos (Nat.pos_of_ne_zero p.den_nz) (Nat.pos_of_ne_zero q.den_nz)
  obtain ⟨h1, h2⟩ := mk_bounds (sumF (ratNeg p) (p.num.natAbs * q.den) (ratNeg q) (q.num.natAbs * p.den)).1 (sumF (ratNeg p) (p.num.natAbs * q.den) (ratNeg q) (q.num.natAbs * p.den)).2 (p.den * q.den) hd (a + b + 1)
    (len_add _ _ (a + b) (len_mul _ _ _ _ hp.num hq.den) (by have := len_mul _ _ _ _ hq.num hp.den; omega) _ (sumF_le _ _ _ _)) (by have := len_mul _ _ _ _ hp.den hq.den; omega)
  rw [add_rat] at h1 h2
  exact ⟨h1, h2⟩
theorem mul_le {p q : Rat} {a b : Nat} (hp : RatLe p a) (hq : RatLe q b) : RatLe (p * q) (a + b) := by
  have hd : 0 < p.den * q.den := Nat.mul_pos (Nat.pos_of_ne_zero p.den_nz) (Nat.pos_of_ne_zero q.den_nz)
  obtain ⟨h1, h2⟩ := mk_bounds (ratNeg p != ratNeg q) (p.num.natAbs * q.num.natAbs) (p.den * q.den) hd (a + b) (len_mul _ _ _ _ hp.num hq.num) (len_mul _ _ _ _ hp.den hq.den)
  rw [mul_rat] at h1 h2
  exact ⟨h1, h2⟩
theorem neg_le {q : Rat} {a : Nat} (h : RatLe q a) : RatLe (-q) a := by
  obtain ⟨_, h2, h3⟩ := neg_rat q
  exact ⟨by rw [h2]; exact h.num, by rw [h3]; exact h.den⟩
theorem inv_le {q : Rat} {a : Nat} (h : RatLe q a) (h0 : q ≠ 0) : RatLe q⁻¹ a := by
  have hp : 0 < q.num.natAbs := Nat.pos_of_ne_zero fun e => h0 ((num_zero q).1 e)
  obtain ⟨h1, h2⟩ := mk_bounds (ratNeg q) q.den q.num.natAbs hp a h.den h.num
  rw [inv_rat q h0] at h1 h2
  exact ⟨h1, h2⟩

set_option maxRecDepth 100000 in
theorem sum_any {w : World} {A A2 : Option Addr} {n c n2 c2 : Nat} {l m : List Nat} (an bn : Bool) (h : Num w A n c l) (h2 : Num w A2 n2 c2 m) (hb : l.length ≤ 100000000) (hb2 : m.length ≤ 100000000) :
    Calls Tryd.prog 53 #[.bool an, .slice A n c, .bool bn, .slice A2 n2 c2] w fun e w' => ∃ A' n' c', e = .returned (.tuple #[.bool (sumF an (lv l) bn (lv m)).1, .slice A' n' c']) ∧ Num w' A' n' c' (limbs (sumF an (lv l) bn (lv m)).2) ∧ Below w.heap.size w w' := by
  unfold sumF
  by_cases he : an = bn
  · subst he
    rw [if_pos rfl]
    have ha := add_num h h2 hb hb2
    clear h h2
    cases an
    · go_enter Tryd.func53, Tryd.ntmps53
      go_wp2_with (go_at_call 15; refine ha.mono ?_; clear ha; rintro e w1 ⟨A1, n1, c1, rfl, h1, b1⟩)
      go_ret2
      exact ⟨_, _, _, rfl, h1, b1⟩
    · go_enter Tryd.func53, Tryd.ntmps53
      go_wp2_with (go_at_call 15; refine ha.mono ?_; clear ha; rintro e w1 ⟨A1, n1, c1, rfl, h1, b1⟩)
      go_ret2
      exact ⟨_, _, _, rfl, h1, b1⟩
  · rw [if_neg he]
    have hbe : (an == bn) = false := by rw [beq_eq_false_iff_ne]; exact he
    by_cases hle : lv m ≤ lv l
    · rw [if_pos hle]
      have hs := sub_yes h h2 hb hb2 hle
      clear h h2
      go_enter Tryd.func53, Tryd.ntmps53
      go_wp2_with (go_at_call 74; refine hs.mono ?_; clear hs; rintro e w1 ⟨A1, n1, c1, rfl, h1, b1⟩)
      go_ret2
      exact ⟨_, _, _, rfl, h1, b1⟩
    · rw [if_neg hle]
      have hs := sub_no h h2 hb hb2 (by omega)
      have hs2 := fun k => sub_yes (h2.drewN k) (h.drewN k) hb2 hb (by omega)
      have HS2 := Lib.hid hs2
      clear h h2 hs2
      go_enter Tryd.func53, Tryd.ntmps53
      go_upto_region 6 with (go_at_call 74; refine hs.mono ?_; clear hs; rintro e w1 ⟨rfl, k, rfl⟩)
      have hcall := HS2.out k
      go_wp2_with (go_at_call 74; refine hcall.mono ?_; clear hcall; rintro e w2 ⟨A1, n1, c1, rfl, h1, b1⟩)
      go_ret2
      exact ⟨_, _, _, rfl, h1, ⟨b1.os, b1.tape, b1.output, b1.size, b1.block⟩⟩
end Go.Proofs.YtlbbbafehhdpnaaDoor

namespace Go.Proofs.YtlbbbafehhdpnaaDoor
open Go.RowKit
set_option linter.unusedVariables false
set_option linter.unusedSimpArgs false

/-- the cells of a number in a block. -/
def Box (w : World) (g : Nat) (s : Bool) (b : RB) : Prop := w.cell? ⟨g, 0, none⟩ = some (.bool s) ∧ w.cell? ⟨g, 1, none⟩ = some (.slice b.A b.n b.c) ∧ w.cell? ⟨g, 2, none⟩ = some (.slice b.A2 b.n2 b.c2)
theorem Box.of {w : World} {g : Nat} {s : Bool} {A : Option Addr} {n c : Nat} {A2 : Option Addr} {n2 c2 : Nat} {t : TypeId} (h : w.heap[g]? = some (.cells #[.bool s, .slice A n c, .slice A2 n2 c2] t (0, 0))) : w.cell? ⟨g, 0, none⟩ = some (.bool s) ∧ w.cell? ⟨g, 1, none⟩ = some (.slice A n c) ∧ w.cell? ⟨g, 2, none⟩ = some (.slice A2 n2 c2) :=
  ⟨cell_of_blk h 0, cell_of_blk h 1, cell_of_blk h 2⟩
theorem RatAt.fr {S : Nat → Prop} {w w' : World} {b : RB} {q : Rat} (h : RatAt w b q) (hf : Fr S w w') (hn : ∀ b i k, S b → w.cell? ⟨b, i, none⟩ ≠ some (.int .u32 k)) : RatAt w' b q := ⟨h.num.fr hf hn, h.den.fr hf hn⟩
theorem box_keep {w w' : World} {g : Nat} {o : Obj} (h : w.heap[g]? = some o) (hb : Below w.heap.size w w') : w'.heap[g]? = some o := (hb.block g (lt_of_blk h)).trans h

set_option maxRecDepth 100000 in
set_option maxHeartbeats 4000000 in
theorem add_any (b1 b2 : RB) (p q : Rat) (w : World) (h1 : RatAt w b1 p) (h2 : RatAt w b2 q) (z : Nat) (hz : z ≤ 1000000) (l1 : RatLe p z) (l2 : RatLe q z) :
    Calls Tryd.prog 25 #[b1.val (ratNeg p), b2.val (ratNeg q)] w fun e w' => ∃ b : RB, e = .returned (b.val (ratNeg (p + q))) ∧ RatAt w' b (p + q) ∧ Below w.heap.size w w' := by
  obtain ⟨A, n, c, A2, n2, c2⟩ := b1
  obtain ⟨B, k, d, B2, k2, d2⟩ := b2
  have hba := fun W h => below_any (ratNeg p) ⟨A, n, c, A2, n2, c2⟩ p W h
  have hbb := fun W h => below_any (ratNeg q) ⟨B, k, d, B2, k2, d2⟩ q W h
  have hpn := l1.num
  have hpd := l1.den
  have hqn := l2.num
  have hqd := l2.den
  have hm1 := len_mul _ _ _ _ hpn hqd
  have hm2 := len_mul _ _ _ _ hqn hpd
  have hm3 := len_mul _ _ _ _ hpd hqd
  have hm4 := len_add _ _ (z + z) hm1 hm2 _ (sumF_le (ratNeg p) (p.num.natAbs * q.den) (ratNeg q) (q.num.natAbs * p.den))
  have hdp : 0 < lv (limbs (p.den * q.den)) := by rw [lv_limbs]; exact Nat.mul_pos (Nat.pos_of_ne_zero p.den_nz) (Nat.pos_of_ne_zero q.den_nz)
  have hsum := add_rat p q
  unfold RB.val
  unfold RB.val at hba hbb
  simp only at hba hbb ⊢
  have HSUM := Lib.hid hsum
  clear hsum l1 l2
  generalize ratNeg p = s1 at *
  generalize ratNeg q = s2 at *
  have hn1 := h1.num
  have hn2 := h2.num
  simp only at hn1 hn2
  generalize p.num.natAbs = pa at *
  generalize q.num.natAbs = qa at *
  generalize p.den = pd at *
  generalize q.den = qd at *
  have HN1 := Lib.hid hn1
  have HN2 := Lib.hid hn2
  have HBA := Lib.hid hba
  have HBB := Lib.hid hbb
  clear hn1 hn2 hba hbb
  obtain ⟨SF, hSF⟩ : ∃ SF, sumF s1 (pa * qd) s2 (qa * pd) = SF := ⟨_, rfl⟩
  rw [hSF] at hm4 HSUM
  have HSF := Lib.hid hSF
  clear hSF
  go_enter Tryd.func25, Tryd.ntmps25
  go_upto_region 1 with fail
  have hw1 : (w.alloc (.cells #[.bool s1, .slice A n c, .slice A2 n2 c2] 50)).heap.size = w.heap.size + 1 := by simp
  have hw2 : ((w.alloc (.cells #[.bool s1, .slice A n c, .slice A2 n2 c2] 50)).alloc (.cells #[.bool s2, .slice B k d, .slice B2 k2 d2] 50)).heap.size = w.heap.size + 1 + 1 := by simp
  have hx1 := box_keep (heap_alloc_new w (.cells #[.bool s1, .slice A n c, .slice A2 n2 c2] 50)) ((Below.refl _ _).alloc (Nat.le_refl _) (.cells #[.bool s2, .slice B k d, .slice B2 k2 d2] 50))
  have hx2 := heap_alloc_new (w.alloc (.cells #[.bool s1, .slice A n c, .slice A2 n2 c2] 50)) (.cells #[.bool s2, .slice B k d, .slice B2 k2 d2] 50)
  have hbw := ((Below.refl w.heap.size w).alloc (Nat.le_refl _) (.cells #[.bool s1, .slice A n c, .slice A2 n2 c2] 50)).alloc (by simp) (.cells #[.bool s2, .slice B k d, .slice B2 k2 d2] 50)
  obtain ⟨wk, hwk⟩ : ∃ x, x = (w.alloc (.cells #[.bool s1, .slice A n c, .slice A2 n2 c2] 50)).alloc (.cells #[.bool s2, .slice B k d, .slice B2 k2 d2] 50) := ⟨_, rfl⟩
  rw [hw1] at hx2
  rw [← hwk] at hx1 hx2 hbw hw2 ⊢
  have h1k := h1.below hbw
  have h2k := h2.below hbw
  clear hwk hw1 h1 h2
  have hr3 := heap_alloc_new wk (.cells #[.bool false, .slice none 0 0, .slice none 0 0] 50)
  have hx1' := box_keep hx1 ((Below.refl _ _).alloc (Nat.le_refl _) (.cells #[.bool false, .slice none 0 0, .slice none 0 0] 50))
  have hx2' := box_keep hx2 ((Below.refl _ _).alloc (Nat.le_refl _) (.cells #[.bool false, .slice none 0 0, .slice none 0 0] 50))
  have hbk := hbw.alloc hbw.size (.cells #[.bool false, .slice none 0 0, .slice none 0 0] 50)
  have h1z := h1k.alloc (.cells #[.bool false, .slice none 0 0, .slice none 0 0] 50)
  have h2z := h2k.alloc (.cells #[.bool false, .slice none 0 0, .slice none 0 0] 50)
  obtain ⟨wz, hwz⟩ : ∃ x, x = wk.alloc (.cells #[.bool false, .slice none 0 0, .slice none 0 0] 50) := ⟨_, rfl⟩
  rw [hw2] at hr3
  rw [← hwz] at hr3 hx1' hx2' hbk h1z h2z ⊢
  have HX1 := Lib.hid hx1'
  have HX2 := Lib.hid hx2'
  have HR3 := Lib.hid hr3
  have HBZ := Lib.hid hbk
  have H1 := Lib.hid h1z
  have H2 := Lib.hid h2z
  clear hwz hx1 hx2 hx1' hx2' hr3 hbk h1k h2k h1z h2z hbw hw2
  have hcs : ∀ W', Fr (fun b => b = w.heap.size + 1 + 1) wz W' → W'.cell? ⟨w.heap.size, 0, none⟩ = some (.bool s1) ∧ W'.cell? ⟨w.heap.size, 1, none⟩ = some (.slice A n c) ∧ W'.cell? ⟨w.heap.size, 2, none⟩ = some (.slice A2 n2 c2) ∧ W'.cell? ⟨w.heap.size + 1, 0, none⟩ = some (.bool s2) ∧ W'.cell? ⟨w.heap.size + 1, 1, none⟩ = some (.slice B k d) ∧ W'.cell? ⟨w.heap.size + 1, 2, none⟩ = some (.slice B2 k2 d2) := fun W' h => by
    obtain ⟨a0, a1, a2⟩ := Box.of ((h.block _ (lt_of_blk HX1.out) (by omega)).trans HX1.out)
    obtain ⟨b0, b1, b2⟩ := Box.of ((h.block _ (lt_of_blk HX2.out) (by omega)).trans HX2.out)
    exact ⟨a0, a1, a2, b0, b1, b2⟩
  have hnz : ∀ W', Below wz.heap.size wz W' → ∀ b i k, b = w.heap.size + 1 + 1 → W'.cell? ⟨b, i, none⟩ ≠ some (.int .u32 k) := fun W' h b i k hb e => by
    subst hb
    rw [cell_of_blk (box_keep HR3.out h) i] at e
    exact no_int3 _ _ _ (by simp) (by simp) (by simp) i k e
  have HCS := Lib.hid hcs
  have HNZ := Lib.hid hnz
  clear hcs hnz
  have tok : True := trivial
  go_cut [5, 6] (fun x y wx => ∃ (A' : Option Addr) (n' c' : Nat), x = .bool SF.1 ∧ y = .slice A' n' c' ∧ Num wx A' n' c' (limbs SF.2) ∧ Below wz.heap.size wz wx)
  case first =>
    go_region_held3 (fun W' => W'.cell? ⟨w.heap.size, 0, none⟩ = some (.bool s1) ∧ W'.cell? ⟨w.heap.size, 1, none⟩ = some (.slice A n c) ∧ W'.cell? ⟨w.heap.size, 2, none⟩ = some (.slice A2 n2 c2) ∧ W'.cell? ⟨w.heap.size + 1, 0, none⟩ = some (.bool s2) ∧ W'.cell? ⟨w.heap.size + 1, 1, none⟩ = some (.slice B k d) ∧ W'.cell? ⟨w.heap.size + 1, 2, none⟩ = some (.slice B2 k2 d2)) (first | exact HCS.out _ (Fr.of_below b24) | exact HCS.out _ (Fr.of_below b23) | exact HCS.out _ (Fr.of_below b22) | exact HCS.out _ (Fr.of_below b21) | exact HCS.out _ (Fr.of_below b20) | exact HCS.out _ (Fr.refl _ _).drew | exact HCS.out _ (Fr.refl _ _)) (first | (go_at_call 54; have _t := tok; refine (HBB.out _ (H2.out.below (below_drew2 (Below.refl _ _)))).mono ?_; rintro e w20 ⟨A20, n20, c20, rfl, h20, b20'⟩; have b20 := (below_drew2 (Below.refl wz.heap.size wz)).trans b20'; have tok1 : True := trivial; clear tok _t) | (go_at_call 12; have _t := tok1; refine (mul_num (HN1.out.below (HBZ.out.trans (b20.mono HBZ.out.size))) h20 (by omega) (by omega)).mono ?_; rintro e w21 ⟨A21, n21, c21, rfl, h21, b21'⟩; have b21 := b20.trans (b21'.mono b20.size); rw [lv_limbs, lv_limbs] at h21; have tok2 : True := trivial; clear tok1 _t) | (go_at_call 54; have _t := tok2; refine (HBA.out _ (H1.out.below b21)).mono ?_; rintro e w22 ⟨A22, n22, c22, rfl, h22, b22'⟩; have b22 := b21.trans (b22'.mono b21.size); have tok3 : True := trivial; clear tok2 _t) | (go_at_call 12; have _t := tok3; refine (mul_num (HN2.out.below (HBZ.out.trans (b22.mono HBZ.out.size))) h22 (by omega) (by omega)).mono ?_; rintro e w23 ⟨A23, n23, c23, rfl, h23, b23'⟩; have b23 := b22.trans (b23'.mono b22.size); rw [lv_limbs, lv_limbs] at h23; have tok4 : True := trivial; clear tok3 _t) | (go_at_call 53; have _t := tok4; refine (sum_any s1 s2 ((h21.below b22').below b23') h23 (by omega) (by omega)).mono ?_; rintro e w24 ⟨A24, n24, c24, rfl, h24, b24'⟩; have b24 := b23.trans (b24'.mono b23.size); rw [lv_limbs, lv_limbs] at h24))
    all_goals
      go_wp2_with fail
      go_meet
      rw [HSF.out] at h24
      exact ⟨_, _, _, congrArg Value.bool (by rw [lv_limbs, lv_limbs, HSF.out]), rfl, h24, b24⟩
  case rest =>
  obtain ⟨A11, n11, c11, rfl, rfl, h11, hb11⟩ := hcut
  obtain ⟨w11, rfl⟩ : ∃ x, x = wc := ⟨_, rfl⟩
  have H11 := Lib.hid h11
  have HB11 := Lib.hid hb11
  have tok : True := trivial
  clear h11 hb11
  go_upto_region 2 with fail
  go_region_held3 (fun W' => W'.cell? ⟨w.heap.size, 0, none⟩ = some (.bool s1) ∧ W'.cell? ⟨w.heap.size, 1, none⟩ = some (.slice A n c) ∧ W'.cell? ⟨w.heap.size, 2, none⟩ = some (.slice A2 n2 c2) ∧ W'.cell? ⟨w.heap.size + 1, 0, none⟩ = some (.bool s2) ∧ W'.cell? ⟨w.heap.size + 1, 1, none⟩ = some (.slice B k d) ∧ W'.cell? ⟨w.heap.size + 1, 2, none⟩ = some (.slice B2 k2 d2)) ((refine HCS.out _ ?_; first | with_reducible exact Fr.of_below b28 | with_reducible exact fr_set (fr_set (fr_set (Fr.of_below b28) (.inl rfl)) (.inl rfl)) (.inl rfl) | with_reducible exact Fr.of_below b27 | with_reducible exact Fr.of_below b26 | with_reducible exact Fr.of_below b25 | with_reducible exact (Fr.of_below HB11.out).drew | with_reducible exact Fr.of_below HB11.out)) (first | (go_at_call 54; have _t := tok; refine (HBA.out _ (H1.out.below (below_drew2 HB11.out))).mono ?_; rintro e w25 ⟨A25, n25, c25, rfl, h25, b25'⟩; have b25 := (below_drew2 HB11.out).trans (b25'.mono HB11.out.size); have tok1 : True := trivial; clear tok _t) | (go_at_call 54; have _t := tok1; refine (HBB.out _ (H2.out.below b25)).mono ?_; rintro e w26 ⟨A26, n26, c26, rfl, h26, b26'⟩; have b26 := b25.trans (b26'.mono b25.size); have tok2 : True := trivial; clear tok1 _t) | (go_at_call 12; have _t := tok2; refine (mul_num (h25.below b26') h26 (by omega) (by omega)).mono ?_; rintro e w27 ⟨A27, n27, c27, rfl, h27, b27'⟩; have b27 := b26.trans (b27'.mono b26.size); rw [lv_limbs, lv_limbs] at h27; have hmade := made_any SF.1 (H11.out.below ((below_drew2 (Below.refl w11.heap.size w11)).trans ((b25'.trans (b26'.mono b25'.size)).trans (b27'.mono (Nat.le_trans b25'.size b26'.size))))) h27 (by omega) (by omega) hdp; rw [lv_limbs, lv_limbs, HSUM.out] at hmade; unfold RB.val at hmade; clear tok2 _t) | (go_at_call 55; refine hmade.mono ?_; clear hmade; rintro e w28 ⟨rb, rfl, hrat, b28'⟩; have b28 := b27.trans (b28'.mono b27.size); obtain ⟨r0, r1, r2⟩ := Box.of (box_keep HR3.out b28); have s0 := frozen_of_blk (box_keep HR3.out b28) 0; have s1' := frozen_of_blk (box_keep HR3.out b28) 1; have s2' := frozen_of_blk (box_keep HR3.out b28) 2; have HRAT := Lib.hid hrat; have HB28 := Lib.hid (HBZ.out.trans (b28.mono HBZ.out.size)); have HNI := Lib.hid (HNZ.out w28 b28); clear hrat))
  all_goals
    go_wp2_with fail
    refine bodyPost_ret (v := .agg #[.bool (ratNeg (p + q)), .slice rb.A rb.n rb.c, .slice rb.A2 rb.n2 rb.c2]) (by simp [results, Tryd.results25, go_sem, r0, r1, r2]) rfl ?_
    refine ⟨rb, rfl, HRAT.out.fr (S := fun b => b = w.heap.size + 1 + 1) (fr_set (fr_set (fr_set (Fr.refl _ _) (.inl rfl)) (.inl rfl)) (.inl rfl)) HNI.out, bl_set (bl_set (bl_set HB28.out ?_) ?_) ?_⟩
    all_goals
      simp
      try omega
end Go.Proofs.YtlbbbafehhdpnaaDoor
