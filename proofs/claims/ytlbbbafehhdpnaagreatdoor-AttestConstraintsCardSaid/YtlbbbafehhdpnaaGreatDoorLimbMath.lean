/- Naturals as lists of 32-bit limbs. No program in sight. -/
import Derived.Laws.BitsAllLaws
import Derived.Test.YtlbbbafehhdpnaaGreatDoorRows
import Derived.Test.YtlbbbafehhdpnaaGreatDoorMem2
import Derived.BigQuiet
import Derived.Deep.QuietTactic
namespace Go.Proofs.YtlbbbafehhdpnaaGreatDoor
set_option linter.unusedVariables false
set_option linter.unusedSimpArgs false

def lv : List Nat → Nat
  | [] => 0
  | a :: l => a + 4294967296 * lv l
def limbs (N : Nat) : List Nat := if N = 0 then [] else N % 4294967296 :: limbs (N / 4294967296)
termination_by N
decreasing_by omega

theorem limbs_zero : limbs 0 = [] := by rw [limbs]; simp
theorem limbs_pos (N : Nat) (h : N ≠ 0) : limbs N = N % 4294967296 :: limbs (N / 4294967296) := by rw [limbs, if_neg h]

def small (l : List Nat) : Prop := ∀ x ∈ l, x < 4294967296
theorem small_nil : small [] := fun x h => by cases h
theorem small_cons {a : Nat} {l : List Nat} : small (a :: l) ↔ a < 4294967296 ∧ small l := by simp [small]
theorem small_append {a b : List Nat} : small (a ++ b) ↔ small a ∧ small b := by
  constructor
  · intro h; exact ⟨fun x hx => h x (by simp [hx]), fun x hx => h x (by simp [hx])⟩
  · rintro ⟨h1, h2⟩ x hx
    rcases List.mem_append.1 hx with hx | hx
    · exact h1 x hx
    · exact h2 x hx
theorem small_take {l : List Nat} (h : small l) (k : Nat) : small (l.take k) := fun x hx => h x (List.mem_of_mem_take hx)
theorem small_drop {l : List Nat} (h : small l) (k : Nat) : small (l.drop k) := fun x hx => h x (List.mem_of_mem_drop hx)

theorem lv_limbs (N : Nat) : lv (limbs N) = N := by
  induction N using Nat.strongRecOn with
  | _ N ih =>
    by_cases h : N = 0
    · subst h; rw [limbs_zero]; rfl
    · rw [limbs_pos N h]
      simp only [lv]
      rw [ih _ (by omega)]
      omega
theorem limbs_small (N : Nat) : small (limbs N) := by
  induction N using Nat.strongRecOn with
  | _ N ih =>
    by_cases h : N = 0
    · subst h; rw [limbs_zero]; exact small_nil
    · rw [limbs_pos N h]
      exact small_cons.2 ⟨Nat.mod_lt _ (by decide), ih _ (by omega)⟩

theorem lv_append (a b : List Nat) : lv (a ++ b) = lv a + 2 ^ (32 * a.length) * lv b := by
  induction a with
  | nil => simp [lv]
  | cons x a ih =>
    simp only [List.cons_append, lv, ih, List.length_cons]
    rw [Nat.mul_add 32, Nat.pow_add, Nat.mul_add, ← Nat.add_assoc, ← Nat.mul_assoc, Nat.mul_comm (2 ^ (32 * a.length))]
theorem lv_lt (l : List Nat) (h : small l) : lv l < 2 ^ (32 * l.length) := by
  induction l with
  | nil => simp [lv]
  | cons x l ih =>
    obtain ⟨h1, h2⟩ := small_cons.1 h
    have := ih h2
    simp only [lv, List.length_cons]
    rw [Nat.mul_add 32, Nat.pow_add]
    have e : 2 ^ (32 * 1) = 4294967296 := by decide
    rw [e]
    generalize 2 ^ (32 * l.length) = p at *
    have : 4294967296 * (lv l + 1) ≤ 4294967296 * p := Nat.mul_le_mul_left _ (by omega)
    omega

/-- a list without noughts at its end is the one of its number -/
theorem limbs_lv (l : List Nat) (h : small l) (hc : ∀ (hl : l ≠ []), l.getLast hl ≠ 0) : limbs (lv l) = l := by
  induction l with
  | nil => exact limbs_zero
  | cons a l ih =>
    obtain ⟨h1, h2⟩ := small_cons.1 h
    have ih' := ih h2 fun hl => by
      have := hc (by simp)
      rwa [List.getLast_cons hl] at this
    by_cases hz : lv (a :: l) = 0
    · exfalso
      simp only [lv] at hz
      have ha : a = 0 := by omega
      have hl0 : lv l = 0 := by omega
      rw [hl0, limbs_zero] at ih'
      subst ih'
      exact hc (by simp) (by simpa using ha)
    · rw [limbs_pos _ hz]
      simp only [lv]
      have e1 : (a + 4294967296 * lv l) % 4294967296 = a := by omega
      have e2 : (a + 4294967296 * lv l) / 4294967296 = lv l := by omega
      rw [e1, e2, ih']

theorem limbs_length_le (l : List Nat) (h : small l) : (limbs (lv l)).length ≤ l.length := by
  induction l with
  | nil => rw [lv, limbs_zero]; simp
  | cons a l ih =>
    obtain ⟨h1, h2⟩ := small_cons.1 h
    have := ih h2
    by_cases hz : lv (a :: l) = 0
    · rw [hz, limbs_zero]; simp
    · rw [limbs_pos _ hz]
      simp only [lv]
      have e2 : (a + 4294967296 * lv l) / 4294967296 = lv l := by omega
      rw [e2]
      simpa using this

theorem lv_take_succ (l : List Nat) (k : Nat) (h : k < l.length) : lv (l.take (k + 1)) = lv (l.take k) + 2 ^ (32 * k) * l[k] := by
  rw [List.take_succ_eq_append_getElem h, lv_append]
  simp only [lv, List.length_take, Nat.min_eq_left (Nat.le_of_lt h), Nat.mul_zero, Nat.add_zero]
theorem lv_zeros (n : Nat) : lv (List.replicate n 0) = 0 := by
  induction n with
  | zero => rfl
  | succ n ih => simp [List.replicate_succ, lv, ih]
theorem small_zeros (n : Nat) : small (List.replicate n 0) := fun x hx => by rw [(List.mem_replicate.1 hx).2]; decide

/-- the limbs of a number, one by one -/
theorem lv_of_digits (l : List Nat) (W : Nat) (h : ∀ i (hi : i < l.length), l[i] = W / 2 ^ (32 * i) % 4294967296) : lv l = W % 2 ^ (32 * l.length) := by
  induction l generalizing W with
  | nil => simp [lv, Nat.mod_one]
  | cons a l ih =>
    have h0 : a = W % 4294967296 := by
      have := h 0 (by simp)
      rw [List.getElem_cons_zero] at this
      rw [this]; simp
    have ih' := ih (W / 4294967296) fun i hi => by
      have := h (i + 1) (by simpa using hi)
      rw [List.getElem_cons_succ] at this
      rw [this, Nat.mul_add 32, Nat.pow_add, Nat.div_div_eq_div_mul, Nat.mul_comm (2 ^ (32 * i))]
    simp only [lv, ih', List.length_cons]
    rw [Nat.mul_add 32, Nat.add_comm (32 * l.length), Nat.pow_add]
    have e : 2 ^ (32 * 1) = 4294967296 := by decide
    rw [e, Nat.mod_mul, h0]

/-- one limb of a shift to the right -/
theorem shr_limb (V i s : Nat) (hs : s < 32) : (V / 2 ^ (32 * i) % 18446744073709551616 / 2 ^ s) % 4294967296 = V / 2 ^ s / 2 ^ (32 * i) % 4294967296 := by
  rw [Nat.div_div_eq_div_mul V, Nat.mul_comm (2 ^ s), ← Nat.div_div_eq_div_mul]
  generalize V / 2 ^ (32 * i) = X
  have e : (18446744073709551616 : Nat) = 2 ^ s * 2 ^ (64 - s) := by
    rw [← Nat.pow_add]
    have : s + (64 - s) = 64 := by omega
    rw [this]
  rw [e, Nat.mod_mul_right_div_self]
  have e2 : (2 : Nat) ^ (64 - s) = 4294967296 * 2 ^ (32 - s) := by
    have : (4294967296 : Nat) = 2 ^ 32 := by decide
    rw [this, ← Nat.pow_add]
    congr 1; omega
  rw [e2, Nat.mod_mul_right_mod]
theorem lv_drop (l : List Nat) (k : Nat) (h : small l) (hk : k ≤ l.length) : lv (l.drop k) = lv l / 2 ^ (32 * k) := by
  have h1 := lv_append (l.take k) (l.drop k)
  rw [List.take_append_drop] at h1
  have h2 := lv_lt _ (small_take h k)
  rw [List.length_take, Nat.min_eq_left hk] at h1 h2
  rw [h1, Nat.add_mul_div_left _ _ (Nat.pow_pos (by omega)), Nat.div_eq_of_lt h2, Nat.zero_add]
theorem lv_limb (l : List Nat) (k : Nat) (h : small l) (hk : k < l.length) : l[k] = lv l / 2 ^ (32 * k) % 4294967296 := by
  rw [← lv_drop l k h (by omega), List.drop_eq_getElem_cons hk]
  simp only [lv]
  have := h l[k] (List.getElem_mem _)
  omega

/-- a list by a function -/
def rowN (n : Nat) (f : Nat → Nat) : List Nat := (List.range n).map f
theorem rowN_length (n : Nat) (f : Nat → Nat) : (rowN n f).length = n := by simp [rowN]
theorem rowN_get (n : Nat) (f : Nat → Nat) (i : Nat) (h : i < (rowN n f).length) : (rowN n f)[i] = f i := by simp [rowN]
theorem rowN_set (n : Nat) (f g : Nat → Nat) (k b : Nat) (hk : k < n) (h1 : g k = b) (h2 : ∀ i, i ≠ k → i < n → g i = f i) : (rowN n f).set k b = rowN n g := by
  apply List.ext_getElem
  · simp [rowN]
  · intro i h1' h2'
    rw [List.getElem_set, rowN_get, rowN_get]
    split
    · subst_vars; rfl
    · rw [h2 i (by omega) (by rw [rowN_length] at h2'; exact h2')]
theorem rowN_zeros (n : Nat) (f : Nat → Nat) (h : ∀ i, i < n → f i = 0) : List.replicate n 0 = rowN n f := by
  apply List.ext_getElem
  · simp [rowN]
  · intro i h1 h2
    rw [rowN_get, h i (by simpa using h1)]; simp
/-- the list of Shr after k steps -/
def shrRow (V s k i : Nat) : Nat := if i < k then V / 2 ^ s / 2 ^ (32 * i) % 4294967296 else 0
theorem shrRow_step (V s m k : Nat) (hk : k < m) : (rowN m (shrRow V s k)).set k (V / 2 ^ s / 2 ^ (32 * k) % 4294967296) = rowN m (shrRow V s (k + 1)) := by
  refine rowN_set _ _ _ _ _ hk ?_ fun i hne _ => ?_
  · unfold shrRow; rw [if_pos (by omega)]
  · unfold shrRow
    by_cases h : i < k
    · rw [if_pos h, if_pos (by omega)]
    · rw [if_neg h, if_neg (by omega)]
theorem shrRow_lt (V s k i : Nat) : shrRow V s k i < 4294967296 := by
  unfold shrRow
  split
  · exact Nat.mod_lt _ (by decide)
  · decide
theorem shrRow_end (V s m : Nat) (hV : V < 2 ^ (32 * m)) : lv (rowN m (shrRow V s m)) = V / 2 ^ s := by
  rw [lv_of_digits _ (V / 2 ^ s) fun i hi => by rw [rowN_get, shrRow, if_pos (by rw [rowN_length] at hi; exact hi)], rowN_length]
  exact Nat.mod_eq_of_lt (Nat.lt_of_le_of_lt (Nat.div_le_self _ _) hV)
theorem small_rowN (n : Nat) (f : Nat → Nat) (h : ∀ i, f i < 4294967296) : small (rowN n f) := by
  intro x hx
  obtain ⟨i, _, rfl⟩ := List.mem_map.1 hx
  exact h i
/-- two limbs together -/
theorem two_limbs (ys : List Nat) (k : Nat) (h : small ys) (hk : k < ys.length) (Y : Nat) (hY : (hk1 : k + 1 < ys.length) → Y = ys[k + 1]) (hY0 : ys.length ≤ k + 1 → Y = 0) (s : Nat) (hs : s < 32) :
    (ys[k] + 4294967296 * Y) / 2 ^ s % 4294967296 = lv ys / 2 ^ s / 2 ^ (32 * k) % 4294967296 := by
  rw [← shr_limb _ _ _ hs, ← lv_drop ys k h (by omega), List.drop_eq_getElem_cons hk]
  simp only [lv]
  have hx := h ys[k] (List.getElem_mem _)
  have hd : lv (ys.drop (k + 1)) % 4294967296 = Y := by
    by_cases h1 : k + 1 < ys.length
    · rw [List.drop_eq_getElem_cons h1, hY h1]
      simp only [lv]
      have := h ys[k + 1] (List.getElem_mem _)
      omega
    · rw [List.drop_of_length_le (by omega), hY0 (by omega)]; rfl
  have e : (ys[k] + 4294967296 * lv (ys.drop (k + 1))) % 18446744073709551616 = ys[k] + 4294967296 * Y := by omega
  rw [e]

end Go.Proofs.YtlbbbafehhdpnaaGreatDoor

namespace Go.Proofs.YtlbbbafehhdpnaaGreatDoor
set_option linter.unusedVariables false
set_option linter.unusedSimpArgs false
open Go.RowKit

theorem info_u32 : (Tryz.prog.info? 92).map (fun i => (i.zero, i.size, i.bytes)) = some (some (.int .u32 0), 1, 4) := by kernel_rfl
def lw (l : List Nat) : List Value := l.map fun (u : Nat) => Value.int .u32 (u : Int)
theorem lw_append (a b : List Nat) : lw (a ++ b) = lw a ++ lw b := by simp [lw]
theorem lw_length (l : List Nat) : (lw l).length = l.length := by simp [lw]
theorem lw_get (l : List Nat) (k : Nat) (h : k < l.length) : (lw l)[k]? = some (.int .u32 (l[k] : Nat)) := by simp [lw, h]
theorem lw_take (l : List Nat) (k : Nat) : (lw l).take k = lw (l.take k) := by simp [lw, List.map_take]
theorem lw_drop (l : List Nat) (k : Nat) : (lw l).drop k = lw (l.drop k) := by simp [lw, List.map_drop]
theorem one32 (l : List Nat) : ∀ u ∈ lw l, u.oneCell' = true := by
  intro u hu
  obtain ⟨x, _, rfl⟩ := List.mem_map.1 hu
  rfl

theorem cut_any (xs : List Nat) (A : Option Addr) (n c : Nat) (w : World) (hl : xs.length = n) (hnc : n ≤ c) (hn : n ≤ 9223372036854775807) (hr : Rd w 1 A n (lw xs)) (hs : small xs) :
    Calls Tryz.prog 52 #[.slice A n c] w fun e w' => ∃ k : Nat, e = .returned (.slice A k c) ∧ k ≤ n ∧ xs.take k = limbs (lv xs) ∧ w = w' := by
  go_enter Tryz.func52, Tryz.ntmps52
  go_wp2_with fail
  go_loop [0] (fun a => ∃ m : Nat, m ≤ n ∧ a = .slice A m c ∧ lv (xs.take m) = lv xs) (fun a => match a with | .slice _ m _ => m | _ => 0)
  case atStart => exact ⟨n, Nat.le_refl _, rfl, by rw [List.take_of_length_le (by omega)]⟩
  case round =>
    obtain ⟨m, hm, rfl, hv⟩ := hrel
    have HV := Lib.hid hv; clear hv
    cases m with
    | zero =>
      go_wp2_with fail
      go_ret
      refine ⟨0, rfl, by omega, ?_, rfl⟩
      have := HV.out
      rw [List.take_zero] at this ⊢
      rw [← this, lv, limbs_zero]
    | succ m =>
      obtain ⟨b1, o1, u1, rfl, hu1, hc1⟩ := hr.at_ (k := m) (by omega)
      rw [lw_get xs m (by omega)] at hu1
      injection hu1 with hu1
      have ht := lv_take_succ xs m (by omega)
      have htk : xs.take (m + 1) = xs.take m ++ [xs[m]] := List.take_succ_eq_append_getElem (by omega)
      have hxs := hs xs[m] (List.getElem_mem _)
      generalize xs[m] = X at *
      subst hu1
      have HT := Lib.hid ht
      have HK := Lib.hid htk
      have HR := Lib.hid hr
      have HS := Lib.hid hs
      clear ht htk hr hs
      have hc1' : w.cell? ⟨b1, o1 + ((m + 1 : Nat) - 1 : Int).toNat, none⟩ = some (.int .u32 X) := by rw [← hc1]; congr 2; omega
      by_cases hX : X ≤ 0
      · obtain rfl : X = 0 := by omega
        go_wp2_with fail
        go_round
        case rel => exact ⟨m, by omega, by first | rfl | (congr 1; omega), by rw [← HV.out, HT.out]; simp⟩
        case measure => simp
      · have hb : ((X : Int) == 0) = false := by rw [beq_eq_false_iff_ne]; omega
        go_wp2_with fail
        go_ret
        refine ⟨m + 1, rfl, hm, ?_, rfl⟩
        rw [← HV.out]
        symm
        refine limbs_lv _ (small_take HS.out _) fun hl => ?_
        have e : (xs.take (m + 1)).getLast hl = X := by simp [HK.out]
        rw [e]
        omega

theorem norm_any (xs : List Nat) (A : Option Addr) (n c : Nat) (w : World) (hl : xs.length = n) (hnc : n ≤ c) (hn : n ≤ 35184372088832) (hr : Rd w 1 A n (lw xs)) (hs : small xs) :
    Calls Tryz.prog 35 #[.slice A n c] w fun e w' => ∃ v, e = .returned v ∧ w'.ownsRow w.heap.size 92 1 v (limbs (lv xs)).length (lw (limbs (lv xs))) ∧ Below w.heap.size w w' := by
  obtain ⟨i0, hi, hz0, hz1, hz2⟩ := info_parts info_u32
  have hcut := cut_any xs A n c w hl hnc (by omega) hr hs
  have hlen := limbs_length_le xs hs
  generalize limbs (lv xs) = L at *
  have HCUT := Lib.hid hcut
  clear hcut
  go_enter Tryz.func35, Tryz.ntmps35
  go_wp2_with fail
  refine HCUT.out.mono ?_
  rintro e w' ⟨k, rfl, hk, htk, rfl⟩
  have hrk := hr.take hk
  rw [lw_take, htk] at hrk
  have hkl : k = L.length := by rw [← htk, List.length_take]; omega
  have HK := Lib.hid hkl
  clear HCUT hr hs htk hkl
  go_wp2_with (at_builtin; refine appR w.heap.size w w 92 rfl _ _ 31 rfl i0 (.int .u32 0) 4 Tryz.underlying31 hi hz0 hz1 hz2 rfl (by decide) _ 0 [] rfl (Nat.le_refl _) (World.ownsRow_nil _ _ _ _) (Below.refl _ _) A k c (lw L) rfl hrk (one32 L) (by omega) ?_)
  intro v1 w1 hown1 hb1 _
  go_wp2_with fail
  go_ret
  refine ⟨_, rfl, ?_, hb1⟩
  rw [← HK.out]
  simpa using hown1

theorem lv_two (u : Nat) (h : u < 18446744073709551616) : lv [u % 4294967296, u / 4294967296] = u := by simp only [lv]; omega
theorem word_any (u : Nat) (w : World) (hu : u < 18446744073709551616) :
    Calls Tryz.prog 20 #[.int .u64 u] w fun e w' => ∃ v, e = .returned v ∧ w'.ownsRow w.heap.size 92 1 v (limbs u).length (lw (limbs u)) ∧ Below w.heap.size w w' := by
  have hn := fun W hr => norm_any [u % 4294967296, u / 4294967296] (some ⟨w.heap.size, 0, none⟩) 2 2 W rfl (by omega) (by omega) hr (by intro x hx; simp at hx; omega)
  rw [lv_two u hu] at hn
  have HN := Lib.hid hn
  clear hn
  go_enter Tryz.func20, Tryz.ntmps20
  go_wp2_with fail
  refine (HN.out _ (rd_lit w _ _)).mono ?_
  rintro e w1 ⟨v, rfl, hown, hb⟩
  go_wp2_with fail
  go_ret
  exact ⟨_, rfl, own_more hown (by simp), ((Below.refl _ _).alloc (Nat.le_refl _) _).trans (hb.mono (by simp))⟩

theorem shiftOK_any (n : Int) (w : World) :
    Calls Tryz.prog 98 #[.int .i64 n] w fun e w' => e = .returned (.bool (decide (0 ≤ n ∧ n ≤ 100000))) ∧ w = w' := by
  by_cases h : 0 ≤ n
  · go_enter Tryz.func98, Tryz.ntmps98
    go_wp2_with fail
    go_ret
    exact ⟨ret_bool (by simp [h]), rfl⟩
  · go_enter Tryz.func98, Tryz.ntmps98
    go_wp2_with fail
    go_ret
    exact ⟨ret_bool (by simp; omega), rfl⟩

theorem low_or (U X : Nat) (hU : U < 4294967296) (hX : X < 4294967296) : bits .or .u64 (U : Int) ((X : Int) * 4294967296) = ((U + 4294967296 * X : Nat) : Int) := by
  have e : (X : Int) * 4294967296 = ((4294967296 * X : Nat) : Int) := by omega
  rw [e, u64_or_nat _ _ (by omega) (by omega)]
  have h3 := Nat.two_pow_add_eq_or_of_lt (i := 32) (show U < 2 ^ 32 by omega) X
  have e2 : (2 : Nat) ^ 32 = 4294967296 := by decide
  rw [e2] at h3
  rw [Nat.or_comm, ← h3, Nat.add_comm]

end Go.Proofs.YtlbbbafehhdpnaaGreatDoor
