/- Naturals as slices that read: the contracts of limb, nat, digits, attesttop in one form. -/
import Derived.Test.YtlbbbafehhdpnaaDoorNatDivMod
import Derived.Test.YtlbbbafehhdpnaaDoorLimbE
import Derived.Test.YtlbbbafehhdpnaaDoorNatPow
import Derived.Test.YtlbbbafehhdpnaaDoorTopFew
import Derived.Test.YtlbbbafehhdpnaaDoorLimbUn
import Derived.Test.YtlbbbafehhdpnaaDoorDigText
namespace Go.Proofs.YtlbbbafehhdpnaaDoor
open Go.RowKit
set_option linter.unusedVariables false
set_option linter.unusedSimpArgs false

/-- the slice reads as these limbs. -/
structure Num (w : World) (A : Option Addr) (n c : Nat) (l : List Nat) : Prop where
  rd : Rd w 1 A n (lw l)
  len : l.length = n
  cap : n ≤ c
  sm : small l
theorem Num.below {w w' : World} {A : Option Addr} {n c : Nat} {l : List Nat} (h : Num w A n c l) (hb : Below w.heap.size w w') : Num w' A n c l := ⟨h.rd.below hb, h.len, h.cap, h.sm⟩
theorem Num.drewN {w : World} {A : Option Addr} {n c : Nat} {l : List Nat} (h : Num w A n c l) (q : Nat) : Num (w.drewN q) A n c l := ⟨h.rd, h.len, h.cap, h.sm⟩
theorem Num.alloc {w : World} {A : Option Addr} {n c : Nat} {l : List Nat} (h : Num w A n c l) (o : Obj) : Num (w.alloc o) A n c l := ⟨h.rd.alloc o, h.len, h.cap, h.sm⟩
theorem Num.of {w : World} {B N n : Nat} {v : Value} {l : List Nat} (h : w.ownsRow B 25 1 v n (lw l)) (hs : small l) : ∃ A c, v = .slice A n c ∧ Num w A n c l := by
  obtain ⟨A, c, rfl, hc, hr⟩ := ownsRow_form h
  refine ⟨A, c, rfl, hr, ?_, hc, hs⟩
  have := h.1
  rw [lw_length] at this
  omega
theorem Num.nil_ (w : World) : Num w none 0 0 [] := ⟨Rd.none_, rfl, Nat.le_refl _, small_nil⟩

section
variable {w : World} {A A2 : Option Addr} {n c n2 c2 : Nat} {l m : List Nat}
theorem norm_num (h : Num w A n c l) (hb : l.length ≤ 100000000) :
    Calls Tryd.prog 39 #[.slice A n c] w fun e w' => ∃ A' n' c', e = .returned (.slice A' n' c') ∧ Num w' A' n' c' (limbs (lv l)) ∧ Below w.heap.size w w' :=
  (norm_any l A n c w h.len h.cap (by have := h.len; omega) h.rd h.sm).mono fun e w' ⟨v, e1, o, b⟩ => by
    obtain ⟨A', c', rfl, hn⟩ := Num.of (N := 0) o (limbs_small _)
    exact ⟨_, _, _, e1, hn, b⟩
theorem cmp_num (h : Num w A n c l) (h2 : Num w A2 n2 c2 m) (hb : l.length ≤ 100000000) (hb2 : m.length ≤ 100000000) :
    Calls Tryd.prog 14 #[.slice A n c, .slice A2 n2 c2] w fun e w' => e = .returned (.int .i64 (cmpN (lv l) (lv m))) ∧ ∃ q, w' = w.drewN q :=
  lcmp_any l m A A2 n c n2 c2 w h.len h.cap (by have := h.len; omega) h.rd h.sm h2.len h2.cap (by have := h2.len; omega) h2.rd h2.sm
theorem bits_num (h : Num w A n c l) (hb : l.length ≤ 100000000) :
    Calls Tryd.prog 13 #[.slice A n c] w fun e w' => e = .returned (.int .i64 ((bl (lv l) : Nat) : Int)) ∧ w' = w :=
  lbits_any l A n c w h.len h.cap (by have := h.len; omega) h.rd h.sm
theorem add_num (h : Num w A n c l) (h2 : Num w A2 n2 c2 m) (hb : l.length ≤ 100000000) (hb2 : m.length ≤ 100000000) :
    Calls Tryd.prog 15 #[.slice A n c, .slice A2 n2 c2] w fun e w' => ∃ A' n' c', e = .returned (.slice A' n' c') ∧ Num w' A' n' c' (limbs (lv l + lv m)) ∧ Below w.heap.size w w' :=
  (ladd_any l m A A2 n c n2 c2 w h.len h.cap (by have := h.len; omega) h.rd h.sm h2.len h2.cap (by have := h2.len; omega) h2.rd h2.sm).mono fun e w' ⟨v, e1, o, b⟩ => by
    obtain ⟨A', c', rfl, hn⟩ := Num.of (N := 0) o (limbs_small _)
    exact ⟨_, _, _, e1, hn, b⟩
theorem mul_num (h : Num w A n c l) (h2 : Num w A2 n2 c2 m) (hb : l.length ≤ 100000000) (hb2 : m.length ≤ 100000000) :
    Calls Tryd.prog 12 #[.slice A n c, .slice A2 n2 c2] w fun e w' => ∃ A' n' c', e = .returned (.slice A' n' c') ∧ Num w' A' n' c' (limbs (lv l * lv m)) ∧ Below w.heap.size w w' :=
  (mul_any l m A A2 n c n2 c2 w h.len h.cap (by have := h.len; omega) h.rd h.sm h2.len h2.cap (by have := h2.len; omega) h2.rd h2.sm).mono fun e w' ⟨v, e1, o, b⟩ => by
    obtain ⟨A', c', rfl, hn⟩ := Num.of (N := 0) o (limbs_small _)
    exact ⟨_, _, _, e1, hn, b⟩
theorem shl_num (K : Nat) (h : Num w A n c l) (hb : l.length ≤ 100000000) (hK : K ≤ 100000) :
    Calls Tryd.prog 9 #[.slice A n c, .int .i64 K] w fun e w' => ∃ A' n' c', e = .returned (.tuple #[.slice A' n' c', .bool true]) ∧ Num w' A' n' c' (limbs (lv l * 2 ^ K)) ∧ Below w.heap.size w w' :=
  (shl_yes l A n c K w h.len (by have := h.len; omega) h.rd h.sm hK).mono fun e w' ⟨v, e1, o, b⟩ => by
    obtain ⟨A', c', rfl, hn⟩ := Num.of (N := 0) o (limbs_small _)
    exact ⟨_, _, _, e1, hn, b⟩
theorem shr_num (K : Nat) (h : Num w A n c l) (hb : l.length ≤ 100000000) (hK : K ≤ 100000) :
    Calls Tryd.prog 10 #[.slice A n c, .int .i64 K] w fun e w' => ∃ A' n' c', e = .returned (.tuple #[.slice A' n' c', .bool true]) ∧ Num w' A' n' c' (limbs (lv l / 2 ^ K)) ∧ Below w.heap.size w w' :=
  (shr_yes l A n c K w h.len h.cap (by have := h.len; omega) h.rd h.sm hK).mono fun e w' ⟨v, e1, o, b⟩ => by
    obtain ⟨A', c', rfl, hn⟩ := Num.of (N := 0) o (limbs_small _)
    exact ⟨_, _, _, e1, hn, b⟩
theorem divmod_num (h : Num w A n c l) (h2 : Num w A2 n2 c2 m) (hb : l.length ≤ 100000000) (hb2 : m.length ≤ 100000000) (hp : 0 < lv m) :
    Calls Tryd.prog 11 #[.slice A n c, .slice A2 n2 c2] w fun e w' => ∃ A' n' c' A3 n3 c3, e = .returned (.tuple #[.slice A' n' c', .slice A3 n3 c3, .bool true]) ∧ Num w' A' n' c' (limbs (lv l / lv m)) ∧ Num w' A3 n3 c3 (limbs (lv l % lv m)) ∧ Below w.heap.size w w' :=
  (divmod_any l m A A2 n c n2 c2 w h.len h.cap (by have := h.len; omega) h.rd h.sm h2.len h2.cap (by have := h2.len; omega) h2.rd h2.sm hp).mono fun e w' ⟨q, r, e1, o, o2, b⟩ => by
    obtain ⟨A', c', rfl, hn⟩ := Num.of (N := 0) o (limbs_small _)
    obtain ⟨A3, c3, rfl, hn3⟩ := Num.of (N := 0) o2 (limbs_small _)
    exact ⟨_, _, _, _, _, _, e1, hn, hn3, b⟩
theorem pow_num (k : Nat) (h : Num w A n c l) (hb : l.length ≤ 100000000) (hk : k ≤ 1000) (hf : bl (lv l) * k ≤ 100000) :
    Calls Tryd.prog 5 #[.slice A n c, .int .i64 (k : Int)] w fun e w' => ∃ A' n' c', e = .returned (.tuple #[.slice A' n' c', .bool true]) ∧ Num w' A' n' c' (limbs (lv l ^ k)) ∧ Below w.heap.size w w' :=
  (pow_any l A n c k w h.len h.cap (by have := h.len; omega) h.rd h.sm hk hf).mono fun e w' ⟨v, e1, o, b⟩ => by
    obtain ⟨A', c', rfl, hn⟩ := Num.of (N := 0) o (limbs_small _)
    exact ⟨_, _, _, e1, hn, b⟩
theorem same_num (h : Num w A n c l) (h2 : Num w A2 n2 c2 m) (hb : l.length ≤ 100000000) (hb2 : m.length ≤ 100000000) :
    Calls Tryd.prog 6 #[.slice A n c, .slice A2 n2 c2] w fun e w' => e = .returned (.bool (decide (l = m))) ∧ ∃ q, w' = w.drewN q :=
  (tsame_any l m A A2 n c n2 c2 w h.len h.cap (by have := h.len; omega) h.rd h.sm h2.len h2.cap (by have := h2.len; omega) h2.rd h2.sm).mono fun e w' ⟨e1, q⟩ => by
    refine ⟨e1.trans (ret_bool ?_), q⟩
    by_cases hlm : l = m
    · subst hlm
      have h1 := h.len
      have h3 := h2.len
      simp
      omega
    · rw [decide_eq_false hlm]
      by_cases hv : lv l = lv m
      · have : ¬ (n = n2) := fun e => hlm (lv_inj h.sm h2.sm (by rw [h.len, h2.len, e]) hv)
        rw [decide_eq_false this, Bool.and_false]
      · rw [decide_eq_false hv, Bool.false_and]
theorem few_num (k : Nat) (h : Num w A n c l) (hb : l.length ≤ 35184372088000) (hk : k ≤ 1000000) :
    Calls Tryd.prog 7 #[.slice A n c, .int .i64 (k : Int)] w fun e w' => ∃ A' n' c', e = .returned (.slice A' n' c') ∧ Num w' A' n' c' (l.take k) ∧ Below w.heap.size w w' :=
  (tfew_any l A n c k w h.len h.cap (by have := h.len; omega) hk h.rd).mono fun e w' ⟨v, e1, o, b⟩ => by
    obtain ⟨A', c', rfl, hn⟩ := Num.of (N := 0) o (small_take h.sm k)
    exact ⟨_, _, _, e1, hn, b⟩
theorem lpack_num (h : Num w A n c l) (hb : l.length ≤ 100000000) :
    Calls Tryd.prog 16 #[.slice A n c] w fun e w' => ∃ A' n' c', e = .returned (.slice A' n' c') ∧ (byts (lv l)).length = n' ∧ n' ≤ c' ∧ n' ≤ 4 * l.length ∧ Rd w' 1 A' n' (by8 (byts (lv l))) ∧ Below w.heap.size w w' :=
  (lpack_any l A n c w h.len h.cap (by have := h.len; omega) h.rd h.sm).mono fun e w' ⟨A', c', e1, h1, h2, h3, b⟩ => ⟨_, _, _, e1, rfl, h1, by rw [h.len]; exact h2, h3, b⟩
theorem lunpack_num (bs : List Nat) (hr : Rd w 1 A n (by8 bs)) (hl : bs.length = n) (hc : n ≤ c) (hs : small8 bs) (hb : n ≤ 400000000) :
    Calls Tryd.prog 21 #[.slice A n c] w fun e w' => ∃ A' n' c', e = .returned (.slice A' n' c') ∧ Num w' A' n' c' (limbs (bv bs)) ∧ Below w.heap.size w w' :=
  (lunpack_any bs A n c w hl hc (by omega) hr hs).mono fun e w' ⟨v, e1, o, b⟩ => by
    obtain ⟨A', c', rfl, hn⟩ := Num.of (N := 0) o (limbs_small _)
    exact ⟨_, _, _, e1, hn, b⟩
theorem text_num (h : Num w A n c l) (hb : l.length ≤ 100000000) :
    Calls Tryd.prog 20 #[.slice A n c] w fun e w' => e = .returned (.string (txt (dec (lv l)))) ∧ Below w.heap.size w w' :=
  text_any l A n c w h.len h.cap (by have := h.len; omega) h.rd h.sm
end
theorem dec_len (N k : Nat) (h : N < 10 ^ k) (hk : 0 < k) : (dec N).length ≤ k := by
  induction k generalizing N with
  | zero => omega
  | succ k ih =>
    rw [dec]
    split
    · simp
    · rename_i h10
      have h2 : N / 10 < 10 ^ k := by
        rw [Nat.div_lt_iff_lt_mul (by decide)]
        rw [Nat.pow_succ] at h
        exact h
      have hk0 : 0 < k := Nat.pos_of_ne_zero fun e => by subst e; simp at h2; omega
      have := ih _ h2 hk0
      rw [List.length_append, List.length_singleton]
      omega
theorem parse_num (N : Nat) (w : World) (hl : (dec N).length ≤ 20000) :
    Calls Tryd.prog 19 #[.string (txt (dec N))] w fun e w' => ∃ A' n' c', e = .returned (.tuple #[.slice A' n' c', .int .i64 0]) ∧ Num w' A' n' c' (limbs N) ∧ Below w.heap.size w w' :=
  (parse_any (dec N) w (dec_pos N) hl (dec_small N)).mono fun e w' ⟨v, e1, o, b⟩ => by
    rw [dv_dec] at o
    obtain ⟨A', c', rfl, hn⟩ := Num.of (N := 0) o (limbs_small _)
    exact ⟨_, _, _, e1, hn, b⟩
end Go.Proofs.YtlbbbafehhdpnaaDoor
