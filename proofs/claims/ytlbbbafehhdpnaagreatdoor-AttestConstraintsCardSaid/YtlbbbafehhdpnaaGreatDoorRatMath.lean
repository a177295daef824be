/- Rational numbers as a sign and two naturals. No program in sight. -/
import Derived.Test.YtlbbbafehhdpnaaGreatDoorNatMul
import Derived.Test.YtlbbbafehhdpnaaGreatDoorNumOps
import Derived.Deep.DeepCutAuto
import Derived.Deep.RegionHeld3
import Derived.Test.YtlbbbafehhdpnaaGreatDoorDigGrow
import Derived.Lib.IndexMore
import Derived.Lib.Strings
namespace Go.Proofs.YtlbbbafehhdpnaaGreatDoor
set_option linter.unusedVariables false
set_option linter.unusedSimpArgs false

def sgn (b : Bool) (n : Nat) : Int := if b then -(n : Int) else n
def ratNeg (q : Rat) : Bool := decide (q.num < 0)
theorem sgn_abs (b : Bool) (n : Nat) : (sgn b n).natAbs = n := by cases b <;> simp [sgn]
theorem sgn_neg (b : Bool) (n : Nat) : decide (sgn b n < 0) = (b && decide (0 < n)) := by
  cases b
  · simp [sgn]
  · simp [sgn]
theorem rat_sgn (q : Rat) : q.num = sgn (ratNeg q) q.num.natAbs := by
  unfold ratNeg sgn
  by_cases h : q.num < 0
  · simp [h]; omega
  · simp [h]; omega
theorem sgn_div (b : Bool) (a g : Nat) (h : g ∣ a) : sgn b a / (g : Int) = sgn b (a / g) := by
  cases b
  · simp [sgn]
  · simp only [sgn, if_true]
    rw [Int.neg_ediv_of_dvd (Int.natCast_dvd_natCast.2 h)]
    rfl
theorem mk_num (b : Bool) (a d : Nat) (hd : 0 < d) : (mkRat (sgn b a) d).num = sgn b (a / Nat.gcd a d) := by
  rw [Rat.num_mkRat, if_neg (by omega), sgn_abs, Nat.gcd_comm, sgn_div _ _ _ (Nat.gcd_dvd_left a d)]
theorem mk_den (b : Bool) (a d : Nat) (hd : 0 < d) : (mkRat (sgn b a) d).den = d / Nat.gcd a d := by
  rw [Rat.den_mkRat, if_neg (by omega), sgn_abs, Nat.gcd_comm]
theorem mk_abs (b : Bool) (a d : Nat) (hd : 0 < d) : (mkRat (sgn b a) d).num.natAbs = a / Nat.gcd a d := by rw [mk_num b a d hd, sgn_abs]
theorem mk_neg (b : Bool) (a d : Nat) (hd : 0 < d) : ratNeg (mkRat (sgn b a) d) = (b && decide (0 < a / Nat.gcd a d)) := by
  unfold ratNeg
  rw [mk_num b a d hd, sgn_neg]
theorem mk_le (b : Bool) (a d : Nat) (hd : 0 < d) : (mkRat (sgn b a) d).num.natAbs ≤ a ∧ (mkRat (sgn b a) d).den ≤ d := by
  rw [mk_abs b a d hd, mk_den b a d hd]
  exact ⟨Nat.div_le_self _ _, Nat.div_le_self _ _⟩
theorem rat_ext {p q : Rat} (h1 : ratNeg p = ratNeg q) (h2 : p.num.natAbs = q.num.natAbs) (h3 : p.den = q.den) : p = q := by
  refine Rat.ext ?_ h3
  rw [rat_sgn p, rat_sgn q, h1, h2]
theorem mk_self (q : Rat) : mkRat (sgn (ratNeg q) q.num.natAbs) q.den = q := by rw [← rat_sgn, Rat.mkRat_self]
theorem rat_gcd (q : Rat) : Nat.gcd q.num.natAbs q.den = 1 := q.reduced

/-- the sum of two naturals with signs. -/
def sumF (an : Bool) (a : Nat) (bn : Bool) (b : Nat) : Bool × Nat := if an = bn then (an, a + b) else if b ≤ a then (an, a - b) else (bn, b - a)
theorem sumF_val (an : Bool) (a : Nat) (bn : Bool) (b : Nat) : sgn (sumF an a bn b).1 (sumF an a bn b).2 = sgn an a + sgn bn b := by
  unfold sumF
  split
  · rename_i he
    subst he
    simp only
    cases an <;> simp [sgn] <;> omega
  · rename_i hne
    split
    · cases an <;> cases bn <;> simp_all [sgn] <;> omega
    · cases an <;> cases bn <;> simp_all [sgn] <;> omega
theorem sumF_le (an : Bool) (a : Nat) (bn : Bool) (b : Nat) : (sumF an a bn b).2 ≤ a + b := by
  unfold sumF
  split
  · exact Nat.le_refl _
  · split <;> simp <;> omega
theorem sgn_mul (b : Bool) (n m : Nat) : sgn b (n * m) = sgn b n * (m : Int) := by
  cases b <;> simp [sgn, Int.neg_mul]
theorem sgn_mul2 (a b : Bool) (n m : Nat) : sgn (a != b) (n * m) = sgn a n * sgn b m := by
  cases a <;> cases b <;> simp [sgn, Int.neg_mul, Int.mul_neg]
theorem add_rat (p q : Rat) : mkRat (sgn (sumF (ratNeg p) (p.num.natAbs * q.den) (ratNeg q) (q.num.natAbs * p.den)).1 (sumF (ratNeg p) (p.num.natAbs * q.den) (ratNeg q) (q.num.natAbs * p.den)).2) (p.den * q.den) = p + q := by
  rw [sumF_val, sgn_mul, sgn_mul, ← rat_sgn, ← rat_sgn, Rat.add_def']
theorem mul_rat (p q : Rat) : mkRat (sgn (ratNeg p != ratNeg q) (p.num.natAbs * q.num.natAbs)) (p.den * q.den) = p * q := by
  rw [sgn_mul2, ← rat_sgn, ← rat_sgn, Rat.mul_def']
theorem neg_rat (q : Rat) : ratNeg (-q) = (!ratNeg q && decide (0 < q.num.natAbs)) ∧ (-q).num.natAbs = q.num.natAbs ∧ (-q).den = q.den := by
  refine ⟨?_, by rw [Rat.neg_num, Int.natAbs_neg], Rat.neg_den q⟩
  unfold ratNeg
  rw [Rat.neg_num]
  by_cases h : q.num < 0
  · rw [decide_eq_true h, decide_eq_false (by omega)]; rfl
  · rw [decide_eq_false h]
    by_cases h0 : q.num = 0
    · rw [h0]; rfl
    · rw [decide_eq_true (by omega), decide_eq_true (by omega)]; rfl
theorem inv_rat (q : Rat) (h : q ≠ 0) : mkRat (sgn (ratNeg q) q.den) q.num.natAbs = q⁻¹ := by
  have hn : q.num ≠ 0 := fun e => h (Rat.num_eq_zero.1 e)
  have ha : q.num.natAbs ≠ 0 := by omega
  have e : mkRat (sgn (ratNeg q) q.den) q.num.natAbs * q = 1 := by
    have h1 : q = mkRat q.num q.den := (Rat.mkRat_self q).symm
    rw [show mkRat (sgn (ratNeg q) q.den) q.num.natAbs * q = mkRat (sgn (ratNeg q) q.den) q.num.natAbs * mkRat q.num q.den by rw [← h1]]
    rw [Rat.mkRat_mul_mkRat]
    have h2 : sgn (ratNeg q) q.den * q.num = ((q.num.natAbs * q.den : Nat) : Int) := by
      unfold sgn ratNeg
      by_cases hlt : q.num < 0
      · simp only [hlt, decide_true, if_true, Int.natCast_mul]
        rw [show ((q.num.natAbs : Nat) : Int) = -q.num by omega, Int.neg_mul, Int.neg_mul, Int.mul_comm]
      · simp only [hlt, decide_false, Bool.false_eq_true, if_false, Int.natCast_mul]
        rw [show ((q.num.natAbs : Nat) : Int) = q.num by omega, Int.mul_comm]
    rw [h2]
    have hm : q.num.natAbs * q.den ≠ 0 := Nat.mul_ne_zero ha q.den_nz
    generalize q.num.natAbs * q.den = M at *
    have h3 : (1 : Rat) = mkRat 1 1 := rfl
    rw [h3, Rat.mkRat_eq_iff hm (by decide)]
    simp
  grind
theorem sub_zero_iff (p q : Rat) : p - q = 0 ↔ p = q := by grind
theorem num_zero (q : Rat) : q.num.natAbs = 0 ↔ q = 0 := by
  rw [← Rat.num_eq_zero]; omega
end Go.Proofs.YtlbbbafehhdpnaaGreatDoor

namespace Go.Proofs.YtlbbbafehhdpnaaGreatDoor
open Go.RowKit
set_option linter.unusedVariables false
set_option linter.unusedSimpArgs false

/-- where the two naturals of a rational number lie. -/
structure RB where
  A : Option Addr
  n : Nat
  c : Nat
  A2 : Option Addr
  n2 : Nat
  c2 : Nat
def ratDen (q : Rat) : List Nat := if q.den = 1 then [] else limbs q.den
/-- such a value is this number. -/
structure RatAt (w : World) (b : RB) (q : Rat) : Prop where
  num : Num w b.A b.n b.c (limbs q.num.natAbs)
  den : Num w b.A2 b.n2 b.c2 (ratDen q)
def RB.val (b : RB) (s : Bool) : Value := .agg #[.bool s, .slice b.A b.n b.c, .slice b.A2 b.n2 b.c2]
theorem RatAt.below {w w' : World} {b : RB} {q : Rat} (h : RatAt w b q) (hb : Below w.heap.size w w') : RatAt w' b q := ⟨h.num.below hb, h.den.below hb⟩
theorem RatAt.drewN {w : World} {b : RB} {q : Rat} (h : RatAt w b q) (k : Nat) : RatAt (w.drewN k) b q := ⟨h.num.drewN k, h.den.drewN k⟩
theorem RatAt.alloc {w : World} {b : RB} {q : Rat} (h : RatAt w b q) (o : Obj) : RatAt (w.alloc o) b q := ⟨h.num.alloc o, h.den.alloc o⟩
theorem ratDen_nil {w : World} {b : RB} {q : Rat} (h : RatAt w b q) : (b.n2 = 0 ↔ q.den = 1) := by
  have hl := h.den.len
  unfold ratDen at hl
  by_cases h1 : q.den = 1
  · rw [if_pos h1] at hl
    simp at hl
    omega
  · rw [if_neg h1] at hl
    have := (limbs_top q.den q.den_nz).1
    omega
theorem ratNum_nil {w : World} {b : RB} {q : Rat} (h : RatAt w b q) : (b.n = 0 ↔ q.num.natAbs = 0) := by
  have hl := h.num.len
  by_cases h1 : q.num.natAbs = 0
  · rw [h1, limbs_zero] at hl
    simp at hl
    omega
  · have := (limbs_top q.num.natAbs h1).1
    omega
theorem num_lit1 (w : World) : Num (w.alloc (.cells #[.int .u32 1] 92)) (some ⟨w.heap.size, 0, none⟩) 1 1 (limbs 1) := by
  have e : limbs 1 = [1] := by rw [limbs_pos 1 (by decide), show 1 / 4294967296 = 0 by decide, limbs_zero]
  rw [e]
  exact ⟨rd_lit w _ _, rfl, Nat.le_refl _, fun y hy => by simp at hy; omega, fun _ => ⟨w.heap.size, 0, #[.int .u32 1], (0, 0), rfl, heap_alloc_new w _⟩⟩

theorem one_any (w : World) :
    Calls Tryz.prog 56 #[] w fun e w' => ∃ A' n' c', e = .returned (.slice A' n' c') ∧ Num w' A' n' c' (limbs 1) ∧ Below w.heap.size w w' := by
  go_enter Tryz.func56, Tryz.ntmps56
  go_wp2_with fail
  go_ret
  exact ⟨_, _, _, rfl, num_lit1 w, (Below.refl _ _).alloc (Nat.le_refl _) _⟩
set_option maxRecDepth 100000 in
theorem below_any (s : Bool) (b : RB) (q : Rat) (w : World) (h : RatAt w b q) :
    Calls Tryz.prog 40 #[b.val s] w fun e w' => ∃ A' n' c', e = .returned (.slice A' n' c') ∧ Num w' A' n' c' (limbs q.den) ∧ Below w.heap.size w w' := by
  have hnil := ratDen_nil h
  obtain ⟨A, n, c, A2, n2, c2⟩ := b
  have hd := h.den
  unfold RB.val
  simp only at hnil hd ⊢
  unfold ratDen at hd
  by_cases h1 : q.den = 1
  · obtain rfl := hnil.2 h1
    rw [h1]
    clear h hd hnil h1
    go_enter Tryz.func40, Tryz.ntmps40
    go_wp2_with (go_at_call 56; refine (one_any _).mono ?_; rintro e w1 ⟨A1, n1, c1, rfl, h1, b1⟩)
    go_ret
    exact ⟨_, _, _, rfl, h1, ((Below.refl w.heap.size w).alloc (Nat.le_refl _) _).trans (b1.mono (by simp))⟩
  · rw [if_neg h1] at hd
    have hn2 : ((n2 : Int) == 0) = false := by rw [beq_eq_false_iff_ne]; intro e; exact h1 (hnil.1 (by omega))
    have HD := Lib.hid hd
    clear h hd hnil h1
    go_enter Tryz.func40, Tryz.ntmps40
    go_wp2_with fail
    go_ret
    exact ⟨_, _, _, rfl, HD.out.alloc _, (Below.refl w.heap.size w).alloc (Nat.le_refl _) _⟩
theorem whole_any (s : Bool) (b : RB) (q : Rat) (w : World) (h : RatAt w b q) :
    Calls Tryz.prog 68 #[b.val s] w fun e w' => e = .returned (.bool (decide (q.den = 1))) ∧ Below w.heap.size w w' := by
  have hnil := ratDen_nil h
  obtain ⟨A, n, c, A2, n2, c2⟩ := b
  unfold RB.val
  simp only at hnil ⊢
  have hq : ((n2 : Int) == 0) = decide (q.den = 1) := by
    by_cases h1 : q.den = 1
    · rw [hnil.2 h1, decide_eq_true h1]; rfl
    · rw [decide_eq_false h1, beq_eq_false_iff_ne]; intro e; exact h1 (hnil.1 (by omega))
  have HQ := Lib.hid hq
  clear h hnil hq
  go_enter Tryz.func68, Tryz.ntmps68
  go_wp2_with fail
  go_ret
  exact ⟨ret_bool HQ.out, (Below.refl w.heap.size w).alloc (Nat.le_refl _) _⟩
def signZ (q : Rat) : Int := if q.num.natAbs = 0 then 0 else if ratNeg q then -1 else 1
theorem sign_any (b : RB) (q : Rat) (w : World) (h : RatAt w b q) :
    Calls Tryz.prog 36 #[b.val (ratNeg q)] w fun e w' => e = .returned (.int .i64 (signZ q)) ∧ Below w.heap.size w w' := by
  have hnil := ratNum_nil h
  obtain ⟨A, n, c, A2, n2, c2⟩ := b
  unfold RB.val
  simp only at hnil ⊢
  unfold signZ
  by_cases h1 : q.num.natAbs = 0
  · rw [if_pos h1]
    obtain rfl := hnil.2 h1
    clear h hnil h1
    generalize ratNeg q = s
    go_enter Tryz.func36, Tryz.ntmps36
    go_wp2_with fail
    go_ret
    exact ⟨rfl, (Below.refl w.heap.size w).alloc (Nat.le_refl _) _⟩
  · rw [if_neg h1]
    have hn : ((n : Int) == 0) = false := by rw [beq_eq_false_iff_ne]; intro e; exact h1 (hnil.1 (by omega))
    clear h hnil h1
    cases ratNeg q
    · go_enter Tryz.func36, Tryz.ntmps36
      go_wp2_with fail
      go_ret
      exact ⟨rfl, (Below.refl w.heap.size w).alloc (Nat.le_refl _) _⟩
    · go_enter Tryz.func36, Tryz.ntmps36
      go_wp2_with fail
      go_ret
      exact ⟨rfl, (Below.refl w.heap.size w).alloc (Nat.le_refl _) _⟩
end Go.Proofs.YtlbbbafehhdpnaaGreatDoor

namespace Go.Proofs.YtlbbbafehhdpnaaGreatDoor
set_option linter.unusedVariables false
set_option linter.unusedSimpArgs false

def strB (l : List UInt8) : ByteArray := ⟨l.toArray⟩
def dg (N : Nat) : List UInt8 := (dec N).map fun d => UInt8.ofNat (48 + d)
theorem txt_dg (N : Nat) : txt (dec N) = strB (dg N) := rfl
theorem dg_byte (N : Nat) (b : UInt8) (h : b ∈ dg N) : 48 ≤ b.toNat ∧ b.toNat ≤ 57 := by
  obtain ⟨d, hd, rfl⟩ := List.mem_map.1 h
  have := dec_small N d hd
  rw [UInt8.toNat_ofNat']
  omega
theorem dg_ne (N : Nat) : dg N ≠ [] := fun e => dec_pos N (List.map_eq_nil_iff.1 e)
theorem dg_len (N : Nat) : (dg N).length = (dec N).length := List.length_map _
theorem strB_data (l : List UInt8) : (strB l).data.toList = l := by simp [strB]
theorem strB_size (l : List UInt8) : (strB l).size = l.length := by
  show l.toArray.size = _
  simp
theorem strB_append (a b : List UInt8) : strB a ++ strB b = strB (a ++ b) := by
  apply ByteArray.ext
  simp [strB]
theorem index_at (c : UInt8) (r : List UInt8) : ∀ l : List UInt8, (∀ b ∈ l, b ≠ c) → Lib.index (l ++ c :: r) [c] = l.length
  | [], _ => by simp [Lib.index]
  | b :: l, h => by
    have ih := index_at c r l fun x hx => h x (by simp [hx])
    have hb : b ≠ c := h b (by simp)
    have hp : [c].isPrefixOf (b :: (l ++ c :: r)) = false := by simp [List.isPrefixOf]; exact fun e => hb e.symm
    simp only [List.cons_append, Lib.index, hp, ih]
    have : ((l.length : Int) == -1) = false := by rw [beq_eq_false_iff_ne]; omega
    rw [this]
    simp
theorem index_no (c : UInt8) : ∀ l : List UInt8, (∀ b ∈ l, b ≠ c) → Lib.index l [c] = -1
  | [], _ => by simp [Lib.index]
  | b :: l, h => by
    have ih := index_no c l fun x hx => h x (by simp [hx])
    have hb : b ≠ c := h b (by simp)
    have hp : [c].isPrefixOf (b :: l) = false := by simp [List.isPrefixOf]; exact fun e => hb e.symm
    simp only [Lib.index, hp, ih]
    rfl
theorem cut_at (c : UInt8) (l r : List UInt8) (h : ∀ b ∈ l, b ≠ c) : Lib.cut (l ++ c :: r) [c] = (l, r, true) := by
  unfold Lib.cut
  rw [index_at c r l h, if_pos (by omega)]
  simp
theorem cut_no (c : UInt8) (l : List UInt8) (h : ∀ b ∈ l, b ≠ c) : Lib.cut l [c] = (l, [], false) := by
  unfold Lib.cut
  rw [index_no c l h, if_neg (by omega)]
theorem trim_sign (r : List UInt8) : Lib.trimPrefix (45 :: r) [45] = r := by
  simp [Lib.trimPrefix, Lib.hasPrefix, List.isPrefixOf]
theorem trim_plain (r : List UInt8) (h : ∀ b, r.head? = some b → b ≠ 45) : Lib.trimPrefix r [45] = r := by
  cases r with
  | nil => rfl
  | cons b r =>
    have hb := h b rfl
    have : Lib.hasPrefix (b :: r) [45] = false := by simp [Lib.hasPrefix, List.isPrefixOf]; exact fun e => hb e.symm
    simp [Lib.trimPrefix, this]
def signL (s : Bool) : List UInt8 := if s then [45] else []
def bodyL (q : Rat) : List UInt8 := dg q.num.natAbs ++ (if q.den = 1 then [] else 47 :: dg q.den)
def printL (q : Rat) : List UInt8 := signL (ratNeg q) ++ bodyL q
theorem body_head (q : Rat) : ∀ b, (bodyL q).head? = some b → b ≠ 45 := by
  intro b hb e
  unfold bodyL at hb
  cases hd : dg q.num.natAbs with
  | nil => exact dg_ne _ hd
  | cons a r =>
    rw [hd] at hb
    simp at hb
    subst hb
    have := dg_byte q.num.natAbs a (by rw [hd]; simp)
    rw [e] at this
    have e2 : (45 : UInt8).toNat = 45 := rfl
    omega
theorem print_trim (q : Rat) : Lib.trimPrefix (printL q) [45] = bodyL q := by
  unfold printL signL
  cases ratNeg q
  · exact trim_plain _ (body_head q)
  · exact trim_sign _
theorem dg_not (N : Nat) (c : UInt8) (h : c.toNat < 48) : ∀ b ∈ dg N, b ≠ c := fun b hb e => by
  have := dg_byte N b hb
  rw [e] at this
  omega
theorem body_cut (q : Rat) : Lib.cut (bodyL q) [47] = if q.den = 1 then (dg q.num.natAbs, [], false) else (dg q.num.natAbs, dg q.den, true) := by
  unfold bodyL
  by_cases h : q.den = 1
  · rw [if_pos h, if_pos h, List.append_nil]
    exact cut_no 47 _ (dg_not _ 47 (by decide))
  · rw [if_neg h, if_neg h]
    exact cut_at 47 _ _ (dg_not _ 47 (by decide))
theorem strB_ne (l : List UInt8) (h : l ≠ []) : (strB l).toList.isEmpty = false := by
  rw [ByteArray.toList_eq, strB_data]
  cases l with
  | nil => exact absurd rfl h
  | cons a l => rfl
theorem strB_nil : strB [] = ⟨#[]⟩ := rfl
theorem strB_nil_empty : (strB []).toList.isEmpty = true := by
  rw [ByteArray.toList_eq, strB_data]; rfl
end Go.Proofs.YtlbbbafehhdpnaaGreatDoor
