/- Naturals as lists of bytes. No program in sight. -/
import Derived.Test.YtlbbbafehhdpnaaDoorLimbMath
namespace Go.Proofs.YtlbbbafehhdpnaaDoor
set_option linter.unusedVariables false
set_option linter.unusedSimpArgs false

def bv : List Nat → Nat
  | [] => 0
  | a :: l => a + 256 * bv l
def byts (N : Nat) : List Nat := if N = 0 then [] else N % 256 :: byts (N / 256)
termination_by N
decreasing_by omega
theorem byts_zero : byts 0 = [] := by rw [byts]; simp
theorem byts_pos (N : Nat) (h : N ≠ 0) : byts N = N % 256 :: byts (N / 256) := by rw [byts, if_neg h]
def small8 (l : List Nat) : Prop := ∀ x ∈ l, x < 256
theorem small8_nil : small8 [] := fun x h => by cases h
theorem small8_cons {a : Nat} {l : List Nat} : small8 (a :: l) ↔ a < 256 ∧ small8 l := by simp [small8]
theorem small8_append {a b : List Nat} : small8 (a ++ b) ↔ small8 a ∧ small8 b := by
  constructor
  · intro h; exact ⟨fun x hx => h x (by simp [hx]), fun x hx => h x (by simp [hx])⟩
  · rintro ⟨h1, h2⟩ x hx
    rcases List.mem_append.1 hx with hx | hx
    · exact h1 x hx
    · exact h2 x hx
theorem small8_take {l : List Nat} (h : small8 l) (k : Nat) : small8 (l.take k) := fun x hx => h x (List.mem_of_mem_take hx)
theorem small8_getD {l : List Nat} (h : small8 l) (k : Nat) : l.getD k 0 < 256 := by
  rw [List.getD_eq_getElem?_getD]
  rcases Nat.lt_or_ge k l.length with hk | hk
  · rw [List.getElem?_eq_getElem hk]; exact h _ (List.getElem_mem _)
  · rw [List.getElem?_eq_none hk]; decide
theorem bv_byts (N : Nat) : bv (byts N) = N := by
  induction N using Nat.strongRecOn with
  | ind N ih =>
    by_cases h : N = 0
    · subst h; rw [byts_zero]; rfl
    · rw [byts_pos N h]
      simp only [bv]
      rw [ih _ (by omega)]
      omega
theorem byts_small (N : Nat) : small8 (byts N) := by
  induction N using Nat.strongRecOn with
  | ind N ih =>
    by_cases h : N = 0
    · subst h; rw [byts_zero]; exact small8_nil
    · rw [byts_pos N h]
      exact small8_cons.2 ⟨Nat.mod_lt _ (by decide), ih _ (by omega)⟩
theorem bv_append (a b : List Nat) : bv (a ++ b) = bv a + 256 ^ a.length * bv b := by
  induction a with
  | nil => simp [bv]
  | cons x a ih =>
    simp only [List.cons_append, bv, ih, List.length_cons, Nat.pow_succ]
    rw [Nat.mul_add, ← Nat.add_assoc, ← Nat.mul_assoc, Nat.mul_comm 256 (256 ^ a.length)]
theorem bv_lt (l : List Nat) (h : small8 l) : bv l < 256 ^ l.length := by
  induction l with
  | nil => simp [bv]
  | cons x l ih =>
    obtain ⟨h1, h2⟩ := small8_cons.1 h
    have := ih h2
    simp only [bv, List.length_cons, Nat.pow_succ]
    generalize 256 ^ l.length = p at *
    omega
/-- a list without noughts at its end is the one of its number. -/
theorem byts_bv (l : List Nat) (h : small8 l) (hc : ∀ k, l.length = k + 1 → l.getD k 0 ≠ 0) : byts (bv l) = l := by
  induction l with
  | nil => exact byts_zero
  | cons a l ih =>
    obtain ⟨h1, h2⟩ := small8_cons.1 h
    have ih' := ih h2 fun k hk => by
      have := hc (k + 1) (by rw [List.length_cons, hk])
      rwa [List.getD_cons_succ] at this
    by_cases hz : bv (a :: l) = 0
    · exfalso
      simp only [bv] at hz
      have ha : a = 0 := by omega
      have hl0 : bv l = 0 := by omega
      rw [hl0, byts_zero] at ih'
      subst ih'
      exact hc 0 rfl (by simpa using ha)
    · rw [byts_pos _ hz]
      simp only [bv]
      have e1 : (a + 256 * bv l) % 256 = a := by omega
      have e2 : (a + 256 * bv l) / 256 = bv l := by omega
      rw [e1, e2, ih']
theorem bv_take_succ (l : List Nat) (k : Nat) (h : k < l.length) : bv (l.take (k + 1)) = bv (l.take k) + 256 ^ k * l.getD k 0 := by
  rw [List.take_succ_eq_append_getElem h, bv_append, List.length_take, Nat.min_eq_left (Nat.le_of_lt h), List.getD_eq_getElem?_getD, List.getElem?_eq_getElem h]
  simp only [bv, Nat.mul_zero, Nat.add_zero, Option.getD_some]
/-- cutting a nought off the end keeps the number. -/
theorem bv_cut (l : List Nat) (k : Nat) (h : k < l.length) (h0 : l.getD k 0 = 0) (hv : bv (l.take (k + 1)) = bv l) : bv (l.take k) = bv l := by
  rw [← hv, bv_take_succ l k h, h0, Nat.mul_zero, Nat.add_zero]
theorem byts_cut (l : List Nat) (k : Nat) (hs : small8 l) (hk : k ≤ l.length) (hv : bv (l.take k) = bv l) (h : ∀ j, k = j + 1 → l.getD j 0 ≠ 0) : l.take k = byts (bv l) := by
  rw [← hv]
  refine (byts_bv _ (small8_take hs _) fun j hj => ?_).symm
  rw [List.length_take, Nat.min_eq_left hk] at hj
  have := h j hj
  rwa [List.getD_eq_getElem?_getD, List.getElem?_take, if_pos (by omega), ← List.getD_eq_getElem?_getD]

/-- each limb as four bytes. -/
def quad (x : Nat) : List Nat := [x % 256, x / 256 % 256, x / 65536 % 256, x / 16777216 % 256]
def quads (l : List Nat) : List Nat := l.flatMap quad
theorem quads_len (l : List Nat) : (quads l).length = 4 * l.length := by
  induction l with
  | nil => rfl
  | cons a l ih => simp only [quads, List.flatMap_cons, List.length_append, List.length_cons] at *; rw [ih]; simp [quad]; omega
theorem quads_small (l : List Nat) : small8 (quads l) := by
  intro x hx
  obtain ⟨y, _, hy⟩ := List.mem_flatMap.1 hx
  simp [quad] at hy
  omega
theorem bv_quads (l : List Nat) (h : small l) : bv (quads l) = lv l := by
  induction l with
  | nil => rfl
  | cons a l ih =>
    obtain ⟨h1, h2⟩ := small_cons.1 h
    have e := ih h2
    simp only [quads, List.flatMap_cons] at *
    rw [bv_append, e]
    simp only [quad, bv, lv, List.length_cons, List.length_nil]
    omega
theorem quads_take_succ (l : List Nat) (k : Nat) (h : k < l.length) : quads (l.take (k + 1)) = quads (l.take k) ++ quad (l.getD k 0) := by
  rw [List.take_succ_eq_append_getElem h, quads, List.flatMap_append, List.getD_eq_getElem?_getD, List.getElem?_eq_getElem h]
  simp [quads]

/-- a byte put into the limbs. -/
theorem pow256 (k : Nat) : 256 ^ k = 2 ^ (8 * k) := by
  rw [Nat.pow_mul]
theorem limb_room (L : List Nat) (hs : small L) (i : Nat) (hi : i / 4 < L.length) (hv : lv L < 256 ^ i) : L.getD (i / 4) 0 < 2 ^ (8 * (i % 4)) := by
  have h := lv_limb L (i / 4) hs hi
  rw [List.getD_eq_getElem?_getD, List.getElem?_eq_getElem hi]
  show L[i / 4] < _
  rw [h]
  refine Nat.lt_of_le_of_lt (Nat.mod_le _ _) ?_
  rw [Nat.div_lt_iff_lt_mul (Nat.pow_pos (by decide)), ← Nat.pow_add]
  rw [pow256] at hv
  rwa [show 8 * (i % 4) + 32 * (i / 4) = 8 * i by omega]
theorem put_byte (L : List Nat) (hs : small L) (i c : Nat) (hi : i / 4 < L.length) (hc : c < 256) (hv : lv L < 256 ^ i) :
    small (L.set (i / 4) (L.getD (i / 4) 0 + c * 2 ^ (8 * (i % 4)))) ∧ lv (L.set (i / 4) (L.getD (i / 4) 0 + c * 2 ^ (8 * (i % 4)))) = lv L + 256 ^ i * c := by
  have h1 := limb_room L hs i hi hv
  have hb : L.getD (i / 4) 0 + c * 2 ^ (8 * (i % 4)) < 4294967296 := by
    have h2 : (c + 1) * 2 ^ (8 * (i % 4)) ≤ 256 * 2 ^ (8 * (i % 4)) := Nat.mul_le_mul_right _ hc
    have h3 : 2 ^ (8 * (i % 4)) ≤ 2 ^ 24 := Nat.pow_le_pow_right (by decide) (by omega)
    have e : 2 ^ 24 = 16777216 := by decide
    rw [e] at h3
    rw [Nat.add_mul, Nat.one_mul] at h2
    omega
  refine ⟨small_set hs _ _ hb, ?_⟩
  have h2 := lv_set L (i / 4) (L.getD (i / 4) 0 + c * 2 ^ (8 * (i % 4))) hi
  rw [Nat.mul_add] at h2
  have e : 256 ^ i * c = 2 ^ (32 * (i / 4)) * (c * 2 ^ (8 * (i % 4))) := by
    rw [Nat.mul_comm c, ← Nat.mul_assoc, ← Nat.pow_add, pow256, show 32 * (i / 4) + 8 * (i % 4) = 8 * i by omega]
  rw [e]
  omega
end Go.Proofs.YtlbbbafehhdpnaaDoor
