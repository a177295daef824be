/- Naturals as slices that read: the contracts of limb, nat, digits, attesttop in one form. -/
import Derived.Test.YtlbbbafehhdpnaaGreatDoorLimbD
import Derived.Test.YtlbbbafehhdpnaaGreatDoorLimbE
import Derived.Test.YtlbbbafehhdpnaaGreatDoorDigText
import Derived.Deep.LoopGhost
import Derived.Test.YtlbbbafehhdpnaaGreatDoorMem2
import Derived.BigQuiet
import Derived.Deep.QuietTactic
namespace Go.Proofs.YtlbbbafehhdpnaaGreatDoor
open Go.RowKit
set_option linter.unusedVariables false
set_option linter.unusedSimpArgs false

/-- the slice reads as these limbs, wherever it lies. -/
structure NumU (w : World) (A : Option Addr) (n c : Nat) (l : List Nat) : Prop where
  rd : Rd w 1 A n (lw l)
  len : l.length = n
  cap : n ≤ c
  sm : small l
theorem NumU.below {w w' : World} {A : Option Addr} {n c : Nat} {l : List Nat} (h : NumU w A n c l) (hb : Below w.heap.size w w') : NumU w' A n c l := ⟨h.rd.below hb, h.len, h.cap, h.sm⟩
theorem NumU.drewN {w : World} {A : Option Addr} {n c : Nat} {l : List Nat} (h : NumU w A n c l) (q : Nat) : NumU (w.drewN q) A n c l := ⟨h.rd, h.len, h.cap, h.sm⟩
theorem NumU.alloc {w : World} {A : Option Addr} {n c : Nat} {l : List Nat} (h : NumU w A n c l) (o : Obj) : NumU (w.alloc o) A n c l := ⟨h.rd.alloc o, h.len, h.cap, h.sm⟩
/-- where the slice lies stand words alone. -/
def Typ (w : World) (A : Option Addr) (n : Nat) : Prop := 0 < n → ∃ b off cs m, A = some ⟨b, off, none⟩ ∧ w.heap[b]? = some (.cells cs 92 m)
theorem Typ.keep {w w' : World} {A : Option Addr} {n : Nat} (h : Typ w A n) (hb : Below w.heap.size w w') : Typ w' A n := fun h0 => by
  obtain ⟨b, off, cs, m, e, hx⟩ := h h0
  exact ⟨b, off, cs, m, e, (hb.block b (Array.getElem?_eq_some_iff.1 hx).1).trans hx⟩
/-- the slice reads as these limbs, and lies among words. -/
structure Num (w : World) (A : Option Addr) (n c : Nat) (l : List Nat) : Prop where
  rd : Rd w 1 A n (lw l)
  len : l.length = n
  cap : n ≤ c
  sm : small l
  typ : Typ w A n
theorem Num.u {w : World} {A : Option Addr} {n c : Nat} {l : List Nat} (h : Num w A n c l) : NumU w A n c l := ⟨h.rd, h.len, h.cap, h.sm⟩
theorem Num.below {w w' : World} {A : Option Addr} {n c : Nat} {l : List Nat} (h : Num w A n c l) (hb : Below w.heap.size w w') : Num w' A n c l := ⟨h.rd.below hb, h.len, h.cap, h.sm, h.typ.keep hb⟩
theorem Num.drewN {w : World} {A : Option Addr} {n c : Nat} {l : List Nat} (h : Num w A n c l) (q : Nat) : Num (w.drewN q) A n c l := ⟨h.rd, h.len, h.cap, h.sm, h.typ⟩
theorem Num.alloc {w : World} {A : Option Addr} {n c : Nat} {l : List Nat} (h : Num w A n c l) (o : Obj) : Num (w.alloc o) A n c l := ⟨h.rd.alloc o, h.len, h.cap, h.sm, h.typ.keep ((Below.refl _ _).alloc (Nat.le_refl _) o)⟩
theorem Num.of {w : World} {B N n : Nat} {v : Value} {l : List Nat} (h : w.ownsRow B 92 1 v n (lw l)) (hs : small l) : ∃ A c, v = .slice A n c ∧ Num w A n c l := by
  obtain ⟨A, c, rfl, hc, hr⟩ := ownsRow_form h
  have hlen : l.length = n := by
    have := h.1
    rw [lw_length] at this
    omega
  refine ⟨A, c, rfl, hr, hlen, hc, hs, fun h0 => ?_⟩
  rcases h.2 with ⟨hv, hx⟩ | ⟨g, cap, cur, hv, _, hx, _⟩
  · omega
  · injection hv with h1 h2 h3
    exact ⟨g, 0, cur, (0, 0), h1, hx⟩
theorem Num.nil_ (w : World) : Num w none 0 0 [] := ⟨Rd.none_, rfl, Nat.le_refl _, small_nil, fun h => absurd h (by decide)⟩

section
variable {w : World} {A A2 : Option Addr} {n c n2 c2 : Nat} {l m : List Nat}
theorem norm_num (h : Num w A n c l) (hb : l.length ≤ 100000000) :
    Calls Tryz.prog 35 #[.slice A n c] w fun e w' => ∃ A' n' c', e = .returned (.slice A' n' c') ∧ Num w' A' n' c' (limbs (lv l)) ∧ Below w.heap.size w w' :=
  (norm_any l A n c w h.len h.cap (by have := h.len; omega) h.rd h.sm).mono fun e w' ⟨v, e1, o, b⟩ => by
    obtain ⟨A', c', rfl, hn⟩ := Num.of (N := 0) o (limbs_small _)
    exact ⟨_, _, _, e1, hn, b⟩
theorem cmp_num (h : Num w A n c l) (h2 : Num w A2 n2 c2 m) (hb : l.length ≤ 100000000) (hb2 : m.length ≤ 100000000) :
    Calls Tryz.prog 55 #[.slice A n c, .slice A2 n2 c2] w fun e w' => e = .returned (.int .i64 (cmpN (lv l) (lv m))) ∧ ∃ q, w' = w.drewN q :=
  lcmp_any l m A A2 n c n2 c2 w h.len h.cap (by have := h.len; omega) h.rd h.sm h2.len h2.cap (by have := h2.len; omega) h2.rd h2.sm
theorem bits_num (h : Num w A n c l) (hb : l.length ≤ 100000000) :
    Calls Tryz.prog 61 #[.slice A n c] w fun e w' => e = .returned (.int .i64 ((bl (lv l) : Nat) : Int)) ∧ w' = w :=
  lbits_any l A n c w h.len h.cap (by have := h.len; omega) h.rd h.sm
theorem add_num (h : Num w A n c l) (h2 : Num w A2 n2 c2 m) (hb : l.length ≤ 100000000) (hb2 : m.length ≤ 100000000) :
    Calls Tryz.prog 58 #[.slice A n c, .slice A2 n2 c2] w fun e w' => ∃ A' n' c', e = .returned (.slice A' n' c') ∧ Num w' A' n' c' (limbs (lv l + lv m)) ∧ Below w.heap.size w w' :=
  (ladd_any l m A A2 n c n2 c2 w h.len h.cap (by have := h.len; omega) h.rd h.sm h2.len h2.cap (by have := h2.len; omega) h2.rd h2.sm).mono fun e w' ⟨v, e1, o, b⟩ => by
    obtain ⟨A', c', rfl, hn⟩ := Num.of (N := 0) o (limbs_small _)
    exact ⟨_, _, _, e1, hn, b⟩
theorem mul_num (h : Num w A n c l) (h2 : Num w A2 n2 c2 m) (hb : l.length ≤ 100000000) (hb2 : m.length ≤ 100000000) :
    Calls Tryz.prog 42 #[.slice A n c, .slice A2 n2 c2] w fun e w' => ∃ A' n' c', e = .returned (.slice A' n' c') ∧ Num w' A' n' c' (limbs (lv l * lv m)) ∧ Below w.heap.size w w' :=
  (mul_any l m A A2 n c n2 c2 w h.len h.cap (by have := h.len; omega) h.rd h.sm h2.len h2.cap (by have := h2.len; omega) h2.rd h2.sm).mono fun e w' ⟨v, e1, o, b⟩ => by
    obtain ⟨A', c', rfl, hn⟩ := Num.of (N := 0) o (limbs_small _)
    exact ⟨_, _, _, e1, hn, b⟩
theorem shl_num (K : Nat) (h : Num w A n c l) (hb : l.length ≤ 100000000) (hK : K ≤ 100000) :
    Calls Tryz.prog 83 #[.slice A n c, .int .i64 K] w fun e w' => ∃ A' n' c', e = .returned (.tuple #[.slice A' n' c', .bool true]) ∧ Num w' A' n' c' (limbs (lv l * 2 ^ K)) ∧ Below w.heap.size w w' :=
  (shl_yes l A n c K w h.len (by have := h.len; omega) h.rd h.sm hK).mono fun e w' ⟨v, e1, o, b⟩ => by
    obtain ⟨A', c', rfl, hn⟩ := Num.of (N := 0) o (limbs_small _)
    exact ⟨_, _, _, e1, hn, b⟩
theorem shr_num (K : Nat) (h : Num w A n c l) (hb : l.length ≤ 100000000) (hK : K ≤ 100000) :
    Calls Tryz.prog 86 #[.slice A n c, .int .i64 K] w fun e w' => ∃ A' n' c', e = .returned (.tuple #[.slice A' n' c', .bool true]) ∧ Num w' A' n' c' (limbs (lv l / 2 ^ K)) ∧ Below w.heap.size w w' :=
  (shr_yes l A n c K w h.len h.cap (by have := h.len; omega) h.rd h.sm hK).mono fun e w' ⟨v, e1, o, b⟩ => by
    obtain ⟨A', c', rfl, hn⟩ := Num.of (N := 0) o (limbs_small _)
    exact ⟨_, _, _, e1, hn, b⟩
theorem divmod_num (h : Num w A n c l) (h2 : Num w A2 n2 c2 m) (hb : l.length ≤ 100000000) (hb2 : m.length ≤ 100000000) (hp : 0 < lv m) :
    Calls Tryz.prog 57 #[.slice A n c, .slice A2 n2 c2] w fun e w' => ∃ A' n' c' A3 n3 c3, e = .returned (.tuple #[.slice A' n' c', .slice A3 n3 c3, .bool true]) ∧ Num w' A' n' c' (limbs (lv l / lv m)) ∧ Num w' A3 n3 c3 (limbs (lv l % lv m)) ∧ Below w.heap.size w w' :=
  (divmod_any l m A A2 n c n2 c2 w h.len h.cap (by have := h.len; omega) h.rd h.sm h2.len h2.cap (by have := h2.len; omega) h2.rd h2.sm hp).mono fun e w' ⟨q, r, e1, o, o2, b⟩ => by
    obtain ⟨A', c', rfl, hn⟩ := Num.of (N := 0) o (limbs_small _)
    obtain ⟨A3, c3, rfl, hn3⟩ := Num.of (N := 0) o2 (limbs_small _)
    exact ⟨_, _, _, _, _, _, e1, hn, hn3, b⟩
theorem lpack_num (h : Num w A n c l) (hb : l.length ≤ 100000000) :
    Calls Tryz.prog 51 #[.slice A n c] w fun e w' => ∃ A' n' c', e = .returned (.slice A' n' c') ∧ (byts (lv l)).length = n' ∧ n' ≤ c' ∧ n' ≤ 4 * l.length ∧ Rd w' 1 A' n' (by8 (byts (lv l))) ∧ Below w.heap.size w w' :=
  (lpack_any l A n c w h.len h.cap (by have := h.len; omega) h.rd h.sm).mono fun e w' ⟨A', c', e1, h1, h2, h3, b⟩ => ⟨_, _, _, e1, rfl, h1, by rw [h.len]; exact h2, h3, b⟩
theorem text_num (h : Num w A n c l) (hb : l.length ≤ 100000000) :
    Calls Tryz.prog 69 #[.slice A n c] w fun e w' => e = .returned (.string (txt (dec (lv l)))) ∧ Below w.heap.size w w' :=
  text_any l A n c w h.len h.cap (by have := h.len; omega) h.rd h.sm
end
theorem dec_len (N k : Nat) (h : N < 10 ^ k) (hk : 0 < k) : (dec N).length ≤ k := by
  induction k generalizing N with
  | zero => omega
  | succ k ih =>
    rw [dec]
    split
    · simp
    · rename_i h10
      have h2 : N / 10 < 10 ^ k := by
        rw [Nat.div_lt_iff_lt_mul (by decide)]
        rw [Nat.pow_succ] at h
        exact h
      have hk0 : 0 < k := Nat.pos_of_ne_zero fun e => by subst e; simp at h2; omega
      have := ih _ h2 hk0
      rw [List.length_append, List.length_singleton]
      omega
end Go.Proofs.YtlbbbafehhdpnaaGreatDoor

namespace Go.Proofs.YtlbbbafehhdpnaaGreatDoor
open Go.RowKit
set_option linter.unusedVariables false
set_option linter.unusedSimpArgs false

theorem sum_len (X Y a b : Nat) (hX : X < 2 ^ (32 * a)) (hY : Y < 2 ^ (32 * b)) (M : Nat) (h : M ≤ X + Y) : (limbs M).length ≤ a + b + 1 := by
  have h1 : 2 ^ (32 * a) ≤ 2 ^ (32 * (a + b)) := Nat.pow_le_pow_right (by decide) (by omega)
  have h2 : 2 ^ (32 * b) ≤ 2 ^ (32 * (a + b)) := Nat.pow_le_pow_right (by decide) (by omega)
  have h3 : 2 ^ (32 * (a + b + 1)) = 2 ^ (32 * (a + b)) * 4294967296 := pow_succ32 _
  refine limbs_len_le ?_
  rw [h3]
  generalize 2 ^ (32 * (a + b)) = P at *
  omega
theorem gcd_step (M K : Nat) : Nat.gcd K (M % K) = Nat.gcd M K := by
  rw [Nat.gcd_comm K, ← Nat.gcd_rec, Nat.gcd_comm]

set_option maxRecDepth 100000 in
set_option maxHeartbeats 4000000 in
theorem gcd_num {w : World} {A A2 : Option Addr} {n c n2 c2 : Nat} {l m : List Nat} (h : Num w A n c l) (h2 : Num w A2 n2 c2 m) (hb : l.length ≤ 10000000) (hb2 : m.length ≤ 10000000) :
    Calls Tryz.prog 54 #[.slice A n c, .slice A2 n2 c2] w fun e w' => ∃ A' n' c', e = .returned (.slice A' n' c') ∧ Num w' A' n' c' (limbs (Nat.gcd (lv l) (lv m))) ∧ Below w.heap.size w w' := by
  have hN1 := norm_num h (by omega)
  have hN2 := fun W hW => norm_num (w := W) (h2.below hW) (by omega)
  have hX := lv_lt l h.sm
  have hY := lv_lt m h2.sm
  have hsl := fun M hM => sum_len (lv l) (lv m) _ _ hX hY M hM
  generalize lv l = X at *
  generalize lv m = Y at *
  have hsl2 : ∀ M, M ≤ X + Y → (limbs M).length ≤ 100000000 := fun M hM => by have := hsl M hM; omega
  have HN2 := Lib.hid hN2
  have HSL := Lib.hid hsl2
  clear hN2 hX hY hsl hsl2 h h2
  go_enter Tryz.func54, Tryz.ntmps54
  go_upto_region 2 with (first | (go_at_call 35; refine hN1.mono ?_; clear hN1; rintro e w1 ⟨A1, n1, c1, rfl, h1, b1⟩; have hcall := HN2.out w1 b1) | (go_at_call 35; refine hcall.mono ?_; clear hcall; rintro e w2 ⟨A3, n3, c3, rfl, h3, b3⟩))
  have H1 := Lib.hid (h1.below b3)
  have H3 := Lib.hid h3
  have HB := Lib.hid (b1.trans (b3.mono b1.size))
  clear h1 h3 b1 b3 HN2
  go_loopg [0, 1] Y (fun γ a b wr => ∃ (M K : Nat) (A4 : Option Addr) (n4 c4 : Nat) (A5 : Option Addr) (n5 c5 : Nat), γ = K ∧ a = .slice A4 n4 c4 ∧ b = .slice A5 n5 c5 ∧ Nat.gcd M K = Nat.gcd X Y ∧ M ≤ X + Y ∧ K ≤ X + Y ∧ Num wr A4 n4 c4 (limbs M) ∧ Num wr A5 n5 c5 (limbs K) ∧ Below w.heap.size w wr)
  case atStart => exact ⟨X, Y, _, _, _, _, _, _, rfl, rfl, rfl, rfl, by omega, by omega, H1.out, H3.out, HB.out⟩
  case round =>
    obtain ⟨M, K, A4, n4, c4, A5, n5, c5, hMe, rfl, rfl, hg, hM, hK, h4, h5, hbw⟩ := hrel
    have hMe' := hMe.symm
    subst hMe'
    clear hMe
    have HG := Lib.hid hg
    have HBW := Lib.hid hbw
    by_cases h0 : K = 0
    · subst h0
      have hn5 := h5.len
      rw [limbs_zero] at hn5
      have hn50 : n5 = 0 := hn5.symm
      subst hn50
      have H4 := Lib.hid h4
      clear h4 h5 hg hbw hn5
      go_wp2_with fail
      go_ret
      refine ⟨_, _, _, rfl, ?_, HBW.out⟩
      rw [← HG.out, Nat.gcd_zero_right]
      exact H4.out
    · have hpos : 0 < lv (limbs K) := by rw [lv_limbs]; omega
      have hdm := divmod_num h4 h5 (HSL.out M hM) (HSL.out K hK) hpos
      rw [lv_limbs, lv_limbs] at hdm
      have hn5 : 0 < n5 := by have := h5.len; have := (limbs_top K h0).1; omega
      have hlt : M % K < K := Nat.mod_lt _ (by omega)
      have hle : M % K ≤ X + Y := by omega
      have hgs := gcd_step M K
      have HDM := Lib.hid hdm
      have HGS := Lib.hid hgs
      have H5 := Lib.hid h5
      obtain ⟨R, hR⟩ : ∃ R, M % K = R := ⟨_, rfl⟩
      rw [hR] at hlt hle HDM HGS
      clear hdm hgs h4 h5 hg hbw hpos hR
      go_wp2_with (go_at_call 57; refine HDM.out.mono ?_; rintro e w6 ⟨A6, n6, c6, A7, n7, c7, rfl, h6, h7, b6⟩)
      go_roundg R
      case measure => exact hlt
      case rel => exact ⟨K, R, _, _, _, _, _, _, rfl, rfl, rfl, HGS.out.trans HG.out, hK, hle, H5.out.below b6, h7, HBW.out.trans (b6.mono HBW.out.size)⟩
end Go.Proofs.YtlbbbafehhdpnaaGreatDoor

namespace Go.Proofs.YtlbbbafehhdpnaaGreatDoor
open Go.RowKit
set_option linter.unusedVariables false
set_option linter.unusedSimpArgs false

structure Bts (w : World) (A : Option Addr) (n c : Nat) (l : List Bool) : Prop where
  rd : Rd w 1 A n (boolL l)
  len : l.length = n
  cap : n ≤ c
theorem Bts.below {w w' : World} {A : Option Addr} {n c : Nat} {l : List Bool} (h : Bts w A n c l) (hb : Below w.heap.size w w') : Bts w' A n c l := ⟨h.rd.below hb, h.len, h.cap⟩
theorem Bts.drewN {w : World} {A : Option Addr} {n c : Nat} {l : List Bool} (h : Bts w A n c l) (q : Nat) : Bts (w.drewN q) A n c l := ⟨h.rd, h.len, h.cap⟩
theorem Bts.alloc {w : World} {A : Option Addr} {n c : Nat} {l : List Bool} (h : Bts w A n c l) (o : Obj) : Bts (w.alloc o) A n c l := ⟨h.rd.alloc o, h.len, h.cap⟩
def Fresh (B : Nat) (A : Option Addr) : Prop := ∀ p, A = some p → B ≤ p.block
theorem Bts.of {w : World} {B n : Nat} {v : Value} {l : List Bool} (h : w.ownsRow B 4 1 v n (boolL l)) : ∃ A c, v = .slice A n c ∧ Bts w A n c l ∧ Fresh B A := by
  obtain ⟨A, c, e, hc, hr⟩ := ownsRow_form h
  refine ⟨A, c, e, ⟨hr, ?_, hc⟩, fun p hp => ?_⟩
  · have := h.1
    unfold boolL at this
    rw [List.length_map] at this
    omega
  · subst hp
    rcases h.2 with ⟨h', _⟩ | ⟨g', cap', cur, h', hB, _⟩
    · rw [e] at h'; cases h'
    · rw [e] at h'
      injection h' with h1 h2 h3
      injection h1 with h1
      subst h1
      exact hB
theorem boolL_length (l : List Bool) : (boolL l).length = l.length := by simp [boolL]
theorem boolL_take (l : List Bool) (k : Nat) : (boolL l).take k = boolL (l.take k) := by simp [boolL, List.map_take]
theorem boolL_append (a b : List Bool) : boolL (a ++ b) = boolL a ++ boolL b := by simp [boolL]
theorem boolL_one (l : List Bool) : ∀ u ∈ boolL l, u.oneCell' = true := by
  intro u hu
  obtain ⟨x, _, rfl⟩ := List.mem_map.1 hu
  rfl
theorem Bts.at_ {w : World} {A : Option Addr} {n c : Nat} {l : List Bool} (h : Bts w A n c l) (k : Nat) (hk : k < l.length) : ∃ b off, A = some ⟨b, off, none⟩ ∧ w.cell? ⟨b, off + k, none⟩ = some (.bool l[k]) := by
  obtain ⟨b, off, u, e, hu, hc⟩ := h.rd.at_ (k := k) (by have := h.len; omega)
  unfold boolL at hu
  rw [List.getElem?_map, List.getElem?_eq_getElem hk] at hu
  injection hu with hu
  subst hu
  exact ⟨b, off, e, hc⟩

theorem rcut_any {w : World} {A : Option Addr} {n c : Nat} {l : List Bool} (h : Bts w A n c l) (hn : n ≤ 1000000) :
    Calls Tryz.prog 60 #[.slice A n c] w fun e w' => ∃ k, e = .returned (.slice A k c) ∧ Bts w A k c (cutB l) ∧ k ≤ n ∧ w' = w := by
  obtain ⟨hr, hl, hc⟩ := h
  have hfull : cutB (l.take n) = cutB l := by rw [List.take_of_length_le (by omega)]
  have HF := Lib.hid hfull
  clear hfull
  go_enter Tryz.func60, Tryz.ntmps60
  go_wp2_with fail
  go_loop [3] (fun x => ∃ m : Nat, m ≤ n ∧ x = .int .i64 m ∧ cutB (l.take m) = cutB l) (fun x => (intOf x).toNat)
  case atStart => exact ⟨n, Nat.le_refl _, rfl, HF.out⟩
  case round =>
    obtain ⟨m, hm, rfl, hv⟩ := hrel
    have HV := Lib.hid hv; clear hv
    cases m with
    | zero =>
      have hend : Bts w A 0 c (cutB l) := by
        rw [← HV.out]
        exact ⟨by have := hr.take (show 0 ≤ n by omega); rw [boolL_take] at this; exact this, rfl, by omega⟩
      have HE := Lib.hid hend
      clear hend hr
      go_wp2_with fail
      go_ret
      exact ⟨0, rfl, HE.out, by omega, rfl⟩
    | succ m =>
      obtain ⟨b1, o1, rfl, hc1⟩ := Bts.at_ ⟨hr, hl, hc⟩ m (by omega)
      have htk : l.take (m + 1) = l.take m ++ [l[m]] := List.take_succ_eq_append_getElem (by omega)
      generalize l[m] = X at *
      have hc1' : w.cell? ⟨b1, o1 + ((m + 1 : Nat) - 1 : Int).toNat, none⟩ = some (.bool X) := by rw [← hc1]; congr 2; omega
      cases X
      · have hnx : cutB (l.take m) = cutB l := by rw [← HV.out, htk, cut_false]
        have HN := Lib.hid hnx
        have HR := Lib.hid hr
        clear hnx htk hr
        go_wp2_with fail
        go_round
        case rel => exact ⟨m, by omega, by first | rfl | (congr 1; omega), HN.out⟩
        case measure => simp [intOf]
      · have hend : Bts w (some ⟨b1, o1, none⟩) (m + 1) c (cutB l) := by
          rw [← HV.out, htk, cut_true, ← htk]
          exact ⟨by have := hr.take (show m + 1 ≤ n by omega); rw [boolL_take] at this; exact this, by rw [List.length_take]; omega, by omega⟩
        have HE := Lib.hid hend
        clear hend htk hr
        go_wp2_with fail
        go_ret
        exact ⟨m + 1, rfl, HE.out, by omega, rfl⟩
end Go.Proofs.YtlbbbafehhdpnaaGreatDoor

namespace Go.Proofs.YtlbbbafehhdpnaaGreatDoor
open Go.RowKit
set_option linter.unusedVariables false
set_option linter.unusedSimpArgs false

theorem drop_stepB {L M : List Bool} {k : Nat} (h1 : k < L.length) (h2 : k < M.length) (h : L.drop (k + 1) = M.drop (k + 1)) (he : L[k] = M[k]) : L.drop k = M.drop k := by
  rw [List.drop_eq_getElem_cons h1, List.drop_eq_getElem_cons h2, h, he]
def CmpR (r : Int) (a b : List Bool) : Prop := 0 ≤ r ↔ bvl b ≤ bvl a
theorem cmpR_lt {a b : List Bool} (h : bvl a < bvl b) : CmpR (-1) a b := ⟨fun h => by omega, fun h' => by omega⟩
theorem cmpR_gt {a b : List Bool} (h : bvl b < bvl a) : CmpR 1 a b := ⟨fun _ => by omega, fun h' => by decide⟩
theorem cmpR_eq {a b : List Bool} (h : a = b) : CmpR 0 a b := ⟨fun _ => by rw [h]; exact Nat.le_refl _, fun h' => by decide⟩
set_option maxRecDepth 100000 in
theorem rcmp_any {w : World} {A A2 : Option Addr} {n c n2 c2 : Nat} {L M : List Bool} (h : Bts w A n c L) (h2 : Bts w A2 n2 c2 M) (hn : n ≤ 1000000) (hn2 : n2 ≤ 1000000) (t1 : tight L) (t2 : tight M) :
    Calls Tryz.prog 75 #[.slice A n c, .slice A2 n2 c2] w fun e w' => ∃ r, e = .returned (.int .i64 r) ∧ CmpR r L M ∧ ∃ q, w' = w.drewN q := by
  have hl := h.len
  have hl2 := h2.len
  have hlt1 : n < n2 → bvl L < bvl M := fun e => tight_lt L M t2 (by omega)
  have hlt2 : n2 < n → bvl M < bvl L := fun e => tight_lt M L t1 (by omega)
  have HR := Lib.hid h
  have HR2 := Lib.hid h2
  clear h h2
  go_enter Tryz.func75, Tryz.ntmps75
  rcases Nat.lt_trichotomy n n2 with h | h | h
  · have h1 : ((n : Int) != (n2 : Int)) = true := by rw [bne_iff_ne]; omega
    have h2 : (n : Int) < (n2 : Int) := by omega
    have HE := Lib.hid (cmpR_lt (hlt1 h))
    clear h hlt1 hlt2
    go_wp2_with fail
    go_ret
    exact ⟨_, rfl, HE.out, 0, rfl⟩
  · subst h
    clear hlt1 hlt2
    go_wp2_with fail
    go_loopw [5] (fun x wr => ∃ (k q : Nat), k ≤ n ∧ x = .int .i64 ((k : Int) - 1) ∧ L.drop k = M.drop k ∧ wr = w.drewN q) (fun x _ => (intOf x + 1).toNat)
    case atStart => exact ⟨n, 0, Nat.le_refl _, by rfl, by rw [List.drop_of_length_le (by omega), List.drop_of_length_le (by omega)], rfl⟩
    case round =>
      obtain ⟨k, q, hk, rfl, hdr, rfl⟩ := hrel
      by_cases hk0 : 0 < k
      · obtain ⟨i, rfl⟩ : ∃ i, k = i + 1 := ⟨k - 1, by omega⟩
        have em : ((i + 1 : Nat) : Int) - 1 = i := by omega
        rw [em]
        have hi1 : i < L.length := by omega
        have hi2 : i < M.length := by omega
        obtain ⟨b1, o1, rfl, x0⟩ := HR.out.at_ i hi1
        obtain ⟨b2, o2, rfl, y0⟩ := HR2.out.at_ i hi2
        have hst := drop_stepB hi1 hi2 hdr
        have hlt := bvl_top L M i (by omega) hi1 hdr
        have hgt := bvl_top M L i (by omega) hi2 hdr.symm
        have hin : (i : Int) < (n : Int) := by omega
        generalize L[i] = x at *
        generalize M[i] = y at *
        have HST := Lib.hid hst
        have HDR := Lib.hid hdr
        clear hst em hk0 hdr
        cases x <;> cases y
        · clear hlt hgt
          go_wp2_with fail
          go_quiet (fail)
          go_wp2_with fail
          go_roundw
          case rel => exact ⟨i, _, by omega, by first | rfl | go_num, HST.out (by trivial), by first | rfl | rw [World.drewN_drewN]⟩
          case measure => simp [intOf]
        · have HE := Lib.hid (cmpR_lt (hlt rfl rfl))
          clear hlt hgt
          go_wp2_with fail
          go_quiet (fail)
          go_wp2_with fail
          go_ret
          exact ⟨_, rfl, HE.out, _, by first | rfl | (simp only [World.drewN_drewN]; exact rfl)⟩
        · have HE := Lib.hid (cmpR_gt (hgt rfl rfl))
          clear hlt hgt
          go_wp2_with fail
          go_quiet (fail)
          go_wp2_with fail
          go_ret
          exact ⟨_, rfl, HE.out, _, by first | rfl | (simp only [World.drewN_drewN]; exact rfl)⟩
        · clear hlt hgt
          go_wp2_with fail
          go_quiet (fail)
          go_wp2_with fail
          go_roundw
          case rel => exact ⟨i, _, by omega, by first | rfl | go_num, HST.out (by trivial), by first | rfl | rw [World.drewN_drewN]⟩
          case measure => simp [intOf]
      · obtain rfl : k = 0 := by omega
        have e0 : ((0 : Nat) : Int) - 1 = -1 := rfl
        rw [e0]
        have HE := Lib.hid (cmpR_eq (a := L) (b := M) (by rw [List.drop_zero, List.drop_zero] at hdr; exact hdr))
        clear e0 hdr
        go_wp2_with fail
        go_ret
        exact ⟨_, rfl, HE.out, _, rfl⟩
  · have h1 : ((n : Int) != (n2 : Int)) = true := by rw [bne_iff_ne]; omega
    have h2 : ¬ (n : Int) < (n2 : Int) := by omega
    have HE := Lib.hid (cmpR_gt (hlt2 h))
    clear h hlt1 hlt2
    go_wp2_with fail
    go_ret
    exact ⟨_, rfl, HE.out, 0, rfl⟩
end Go.Proofs.YtlbbbafehhdpnaaGreatDoor
