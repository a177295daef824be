/- Package logic: turned; what nnf answers, and how a formula that grows lies in memory. -/
import Derived.Test.YtbcabcdgblmnkaaFmOn
namespace Go.Proofs.Ytbcabcdgblmnkaa
open Go.RowKit
set_option linter.unusedVariables false
set_option linter.unusedSimpArgs false

def turnK (k : Int) : Int := if k = 3 then 4 else if k = 4 then 3 else if k = 5 then 6 else 5
mutual
/-- negations at atoms alone. -/
def nnfF : Fm → Bool → Fm
  | .mk k a sub, neg => if k = 2 then nnfH sub (!neg) else if k = 1 then (if neg = true then .mk 2 0 [.mk 1 a []] else .mk 1 a []) else .mk (if neg = true then turnK k else k) 0 (nnfL sub neg)
def nnfH : List Fm → Bool → Fm
  | [], _ => .mk 0 0 []
  | s :: _, neg => nnfF s neg
def nnfL : List Fm → Bool → List Fm
  | [], _ => []
  | s :: ss, neg => nnfF s neg :: nnfL ss neg
end
/-- a formula that a call has made. -/
def FRes (B : Nat) (w' : World) (g : Fm) (v : Value) : Prop := ∃ sv, v = .agg #[.int .i64 g.k, .int .i64 g.a, sv] ∧ FOn (fun b => B ≤ b) w' g.sub sv

/-- a row of formulas that grows: its parts lie behind B, neither in X nor in the row's own block. -/
structure Grow (B X : Nat) (w : World) (gs : List Fm) (v : Value) (E : TypeId) (ss : List Value) : Prop where
  own : w.ownsRow B E 3 v gs.length (fCells gs ss)
  len : ss.length = gs.length
  sub : ∀ (j : Nat) (f : Fm) (s : Value), gs[j]? = some f → ss[j]? = some s → FOn (fun b => B ≤ b ∧ b ≠ X ∧ v.ownBlock ≠ some b) w f.sub s
theorem Grow.nil (B X : Nat) (w : World) (E : TypeId) : Grow B X w [] (.slice none 0 0) E [] := ⟨World.ownsRow_nil _ _ _ _, rfl, fun j f s h _ => by simp at h⟩
/-- what is written elsewhere does not matter. -/
theorem Grow.fr {B X : Nat} {w w' : World} {gs : List Fm} {v : Value} {E : TypeId} {ss : List Value} (h : Grow B X w gs v E ss) {T : Nat → Prop} (hf : Fr T w w') (hT : ∀ b, b < w.heap.size → T b → b < B ∨ b = X) (hX : v.ownBlock ≠ some X) : Grow B X w' gs v E ss := by
  have hown : ∀ b, v.ownBlock = some b → ¬ T b := fun b hb ht => by
    obtain ⟨h1, h2⟩ := own_lt h.own hb
    rcases hT b h2 ht with h3 | h3
    · omega
    · exact hX (h3 ▸ hb)
  refine ⟨hf.own h.own hown, h.len, fun j f s hf' hs => (h.sub j f s hf' hs).keep (fun p hp hS => hf.cell hp (fun ht => ?_)) (fun b _ h => h)⟩
  rcases hT p.block hp ht with h3 | h3
  · have := hS.1; omega
  · exact hS.2.1 h3
theorem Grow.res {B X : Nat} {w : World} {gs : List Fm} {v : Value} {E : TypeId} {ss : List Value} (h : Grow B X w gs v E ss) : FOn (fun b => B ≤ b) w gs v := by
  obtain ⟨A, c, rfl, hnc, hr⟩ := ownsRow_form h.own
  have hcm : c ≤ maxLen := by
    rcases h.own.2 with ⟨e, _⟩ | ⟨g, cap, cur, e, _, _, _, hm, _⟩
    · injection e with _ _ e; subst e; unfold maxLen; omega
    · injection e with _ _ e; subst e; exact hm
  refine .mk A gs.length c gs ss rfl h.len hnc hcm hr (fun b o _ e => ?_) (fun j f s hf hs => (h.sub j f s hf hs).keep (fun _ _ _ => rfl) (fun b _ hS => hS.1))
  subst e
  exact (own_lt h.own rfl).1
/-- one more, its cells laid in a block of their own first. -/
theorem Grow.snoc {B X : Nat} {w w1 w2 : World} {gs : List Fm} {v v' : Value} {E : TypeId} {ss : List Value} {g : Fm} {s : Value} (h : Grow B X w gs v E ss) (hX : X < w.heap.size) (hB : B ≤ w.heap.size)
    (hb : Below w.heap.size w w1) (hg : FOn (fun b => w.heap.size ≤ b) w1 g.sub s) (hf : Fr (ownS v) w1 w2)
    (hown : w2.ownsRow B E 3 v' (gs.length + 1) (fCells gs ss ++ [.int .i64 g.k, .int .i64 g.a, s])) (hv : v'.ownBlock = v.ownBlock ∨ ∀ b, v'.ownBlock = some b → w1.heap.size ≤ b) : Grow B X w2 (gs ++ [g]) v' E (ss ++ [s]) := by
  have hlt : ∀ b, v.ownBlock = some b → b < w.heap.size := fun b hb => (own_lt h.own hb).2
  have hv' : ∀ b, b < w1.heap.size → v'.ownBlock = some b → v.ownBlock = some b := fun b h1 h2 => by
    rcases hv with h3 | h3
    · rw [← h3]; exact h2
    · have := h3 b h2; omega
  refine ⟨?_, by simp [h.len], fun j f t hj ht => ?_⟩
  · rw [fCells_append _ _ _ _ h.len, List.length_append]
    exact hown
  · by_cases hlt2 : j < gs.length
    · rw [List.getElem?_append_left hlt2] at hj
      rw [List.getElem?_append_left (by rw [h.len]; exact hlt2)] at ht
      have h0 := h.sub j f t hj ht
      have h1 := h0.belo hb
      exact h1.keep (fun p hp hS => hf.cell hp (fun e => hS.2.2 e)) (fun b hb hS => ⟨hS.1, hS.2.1, fun e => hS.2.2 (hv' b hb e)⟩)
    · have hjl : j < (gs ++ [g]).length := (List.getElem?_eq_some_iff.1 hj).1
      rw [List.length_append] at hjl
      simp at hjl
      obtain rfl : j = gs.length := by omega
      rw [List.getElem?_append_right (Nat.le_refl _), Nat.sub_self] at hj
      rw [List.getElem?_append_right (by rw [h.len]; exact Nat.le_refl _), h.len, Nat.sub_self] at ht
      simp only [List.getElem?_cons_zero, Option.some.injEq] at hj ht
      subst hj ht
      exact hg.keep (fun p hp hS => hf.cell hp (fun e => by have := hlt _ e; omega)) (fun b hb hS => ⟨by omega, by omega, fun e => by have := hlt b (hv' b hb e); omega⟩)
end Go.Proofs.Ytbcabcdgblmnkaa
