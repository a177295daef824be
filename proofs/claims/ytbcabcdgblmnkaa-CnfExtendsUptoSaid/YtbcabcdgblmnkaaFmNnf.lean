/- Package logic: turned; what nnf answers, and how a formula that grows lies in memory. -/
import Derived.Test.YtbcabcdgblmnkaaFmEval
import Derived.Test.YtbcabcdgblmnkaaOwnBase
import Derived.Deep.DeepCutAuto
namespace Go.Proofs.Ytbcabcdgblmnkaa
open Go.RowKit
set_option linter.unusedVariables false
set_option linter.unusedSimpArgs false

def turnK (k : Int) : Int := if k = 3 then 4 else if k = 4 then 3 else if k = 5 then 6 else 5
mutual
/-- negations at atoms alone. -/
def nnfF : Fm → Bool → Fm
  | .mk k a sub, neg => if k = 2 then nnfH sub (!neg) else if k = 1 then (if neg = true then .mk 2 0 [.mk 1 a []] else .mk 1 a []) else .mk (if neg = true then turnK k else k) 0 (nnfL sub neg)
def nnfH : List Fm → Bool → Fm
  | [], _ => .mk 0 0 []
  | s :: _, neg => nnfF s neg
def nnfL : List Fm → Bool → List Fm
  | [], _ => []
  | s :: ss, neg => nnfF s neg :: nnfL ss neg
end
/-- a formula that a call has made. -/
def FRes (B : Nat) (w' : World) (g : Fm) (v : Value) : Prop := ∃ sv, v = .agg #[.int .i64 g.k, .int .i64 g.a, sv] ∧ FOn (fun b => B ≤ b) w' g.sub sv

/-- a row of formulas that grows: its parts lie behind B, neither in X nor in the row's own block. -/
structure Grow (B X : Nat) (w : World) (gs : List Fm) (v : Value) (E : TypeId) (ss : List Value) : Prop where
  own : w.ownsRow B E 3 v gs.length (fCells gs ss)
  len : ss.length = gs.length
  sub : ∀ (j : Nat) (f : Fm) (s : Value), gs[j]? = some f → ss[j]? = some s → FOn (fun b => B ≤ b ∧ b ≠ X ∧ v.ownBlock ≠ some b) w f.sub s
theorem Grow.nil (B X : Nat) (w : World) (E : TypeId) : Grow B X w [] (.slice none 0 0) E [] := ⟨World.ownsRow_nil _ _ _ _, rfl, fun j f s h _ => by simp at h⟩
/-- what is written elsewhere does not matter. -/
theorem Grow.fr {B X : Nat} {w w' : World} {gs : List Fm} {v : Value} {E : TypeId} {ss : List Value} (h : Grow B X w gs v E ss) {T : Nat → Prop} (hf : Fr T w w') (hT : ∀ b, b < w.heap.size → T b → b < B ∨ b = X) (hX : v.ownBlock ≠ some X) : Grow B X w' gs v E ss := by
  have hown : ∀ b, v.ownBlock = some b → ¬ T b := fun b hb ht => by
    obtain ⟨h1, h2⟩ := own_lt h.own hb
    rcases hT b h2 ht with h3 | h3
    · omega
    · exact hX (h3 ▸ hb)
  refine ⟨hf.own h.own hown, h.len, fun j f s hf' hs => (h.sub j f s hf' hs).keep (fun p hp hS => hf.cell hp (fun ht => ?_)) (fun b _ h => h)⟩
  rcases hT p.block hp ht with h3 | h3
  · have := hS.1; omega
  · exact hS.2.1 h3
theorem Grow.res {B X : Nat} {w : World} {gs : List Fm} {v : Value} {E : TypeId} {ss : List Value} (h : Grow B X w gs v E ss) : FOn (fun b => B ≤ b) w gs v := by
  obtain ⟨A, c, rfl, hnc, hr⟩ := ownsRow_form h.own
  have hcm : c ≤ maxLen := by
    rcases h.own.2 with ⟨e, _⟩ | ⟨g, cap, cur, e, _, _, _, hm, _⟩
    · injection e with _ _ e; subst e; unfold maxLen; omega
    · injection e with _ _ e; subst e; exact hm
  refine .mk A gs.length c gs ss rfl h.len hnc hcm hr (fun b o _ e => ?_) (fun j f s hf hs => (h.sub j f s hf hs).keep (fun _ _ _ => rfl) (fun b _ hS => hS.1))
  subst e
  exact (own_lt h.own rfl).1
/-- one more, its cells laid in a block of their own first. -/
theorem Grow.snoc {B X : Nat} {w w1 w2 : World} {gs : List Fm} {v v' : Value} {E : TypeId} {ss : List Value} {g : Fm} {s : Value} (h : Grow B X w gs v E ss) (hX : X < w.heap.size) (hB : B ≤ w.heap.size)
    (hb : Below w.heap.size w w1) (hg : FOn (fun b => w.heap.size ≤ b) w1 g.sub s) (hf : Fr (ownS v) w1 w2)
    (hown : w2.ownsRow B E 3 v' (gs.length + 1) (fCells gs ss ++ [.int .i64 g.k, .int .i64 g.a, s])) (hv : v'.ownBlock = v.ownBlock ∨ ∀ b, v'.ownBlock = some b → w1.heap.size ≤ b) : Grow B X w2 (gs ++ [g]) v' E (ss ++ [s]) := by
  have hlt : ∀ b, v.ownBlock = some b → b < w.heap.size := fun b hb => (own_lt h.own hb).2
  have hv' : ∀ b, b < w1.heap.size → v'.ownBlock = some b → v.ownBlock = some b := fun b h1 h2 => by
    rcases hv with h3 | h3
    · rw [← h3]; exact h2
    · have := h3 b h2; omega
  refine ⟨?_, by simp [h.len], fun j f t hj ht => ?_⟩
  · rw [fCells_append _ _ _ _ h.len, List.length_append]
    exact hown
  · by_cases hlt2 : j < gs.length
    · rw [List.getElem?_append_left hlt2] at hj
      rw [List.getElem?_append_left (by rw [h.len]; exact hlt2)] at ht
      have h0 := h.sub j f t hj ht
      have h1 := h0.belo hb
      exact h1.keep (fun p hp hS => hf.cell hp (fun e => hS.2.2 e)) (fun b hb hS => ⟨hS.1, hS.2.1, fun e => hS.2.2 (hv' b hb e)⟩)
    · have hjl : j < (gs ++ [g]).length := (List.getElem?_eq_some_iff.1 hj).1
      rw [List.length_append] at hjl
      simp at hjl
      obtain rfl : j = gs.length := by omega
      rw [List.getElem?_append_right (Nat.le_refl _), Nat.sub_self] at hj
      rw [List.getElem?_append_right (by rw [h.len]; exact Nat.le_refl _), h.len, Nat.sub_self] at ht
      simp only [List.getElem?_cons_zero, Option.some.injEq] at hj ht
      subst hj ht
      exact hg.keep (fun p hp hS => hf.cell hp (fun e => by have := hlt _ e; omega)) (fun b hb hS => ⟨by omega, by omega, fun e => by have := hlt b (hv' b hb e); omega⟩)
end Go.Proofs.Ytbcabcdgblmnkaa

namespace Go.Proofs.Ytbcabcdgblmnkaa
open Go.RowKit
set_option linter.unusedVariables false
set_option linter.unusedSimpArgs false

theorem fr_set3 (w : World) (X : Nat) (a b c : Value) : Fr (fun x => x = X) w (((w.setCell ⟨X, 0, none⟩ a).setCell ⟨X, 1, none⟩ b).setCell ⟨X, 2, none⟩ c) :=
  (((Fr.refl (fun x => x = X) w).setCell ⟨X, 0, none⟩ a (.inl rfl)).setCell ⟨X, 1, none⟩ b (.inl rfl)).setCell ⟨X, 2, none⟩ c (.inl rfl)

theorem nnfL_map (fs : List Fm) (neg : Bool) : nnfL fs neg = fs.map fun f => nnfF f neg := by
  induction fs with
  | nil => rfl
  | cons f fs ih => rw [nnfL, ih]; rfl
theorem nnfL_take (fs : List Fm) (neg : Bool) (i : Nat) (f : Fm) (h : fs[i]? = some f) : nnfL (fs.take (i + 1)) neg = nnfL (fs.take i) neg ++ [nnfF f neg] := by
  rw [nnfL_map, nnfL_map, List.take_add_one, h]
  simp
theorem info_f : (Try.prog.info? 58).map (fun i => (i.zero, i.size, i.bytes)) = some (some (.agg #[.int .i64 0, .int .i64 0, .slice none 0 0]), 3, 40) := by kernel_rfl
/-- no node has more than 20000 parts. -/
inductive Fits : List Fm → Prop
  | mk (fs : List Fm) (hl : fs.length ≤ 20000) (h : ∀ (i : Nat) (f : Fm), fs[i]? = some f → Fits f.sub) : Fits fs

theorem new_at (W : World) (o : Obj) (s : Nat) (h : W.heap.size = s) : (W.alloc o).heap[s]? = some o := h ▸ heap_alloc_new W o
/-- how the world stands while the formula grows: out lies at w.heap.size + 2, the answer's place at w.heap.size + 1. -/
structure NSt (E : TypeId) (w wr : World) (kk aa : Int) (gs : List Fm) (v : Value) (tt : List Value) : Prop where
  blk : wr.heap[w.heap.size + 1 + 1]? = some (.cells #[.int .i64 kk, .int .i64 aa, v] E (0, 0))
  res : wr.heap[w.heap.size + 1]? = some (.cells #[.int .i64 0, .int .i64 0, .slice none 0 0] E (0, 0))
  grow : Grow (w.heap.size + 1 + 1 + 1) (w.heap.size + 1 + 1) wr gs v E tt
  bel : Below w.heap.size w wr
theorem NSt.size {E : TypeId} {w wr : World} {kk aa : Int} {gs : List Fm} {v : Value} {tt : List Value} (h : NSt E w wr kk aa gs v tt) : w.heap.size + 1 + 1 + 1 ≤ wr.heap.size := lt_of_blk h.blk
theorem NSt.belo {E : TypeId} {w wr w' : World} {kk aa : Int} {gs : List Fm} {v : Value} {tt : List Value} (h : NSt E w wr kk aa gs v tt) (hb : Below wr.heap.size wr w') : NSt E w w' kk aa gs v tt :=
  ⟨(hb.block _ (lt_of_blk h.blk)).trans h.blk, (hb.block _ (lt_of_blk h.res)).trans h.res, ⟨own_below h.grow.own hb, h.grow.len, fun j f s hf hs => (h.grow.sub j f s hf hs).belo hb⟩, h.bel.trans (hb.mono h.bel.size)⟩
/-- one more part: the call's world w3, the append's w4. -/
theorem NSt.snoc {E : TypeId} {w wr w3 w4 : World} {kk aa : Int} {gs : List Fm} {v v' : Value} {tt : List Value} {g : Fm} {s : Value} (h : NSt E w wr kk aa gs v tt) (hb : Below wr.heap.size wr w3) (hg : FOn (fun b => wr.heap.size ≤ b) w3 g.sub s)
    (hf : Fr (ownS v) w3 w4) (hown : w4.ownsRow 0 E 3 v' (gs.length + 1) (fCells gs tt ++ [.int .i64 g.k, .int .i64 g.a, s])) (hv : v'.ownBlock = v.ownBlock ∨ v'.ownBlock = some (w3.heap.size + 1)) :
    NSt E w (w4.setCell ⟨w.heap.size + 1 + 1, 2, none⟩ v') kk aa (gs ++ [g]) v' (tt ++ [s]) := by
  have hs := h.size
  have hs3 := hb.size
  have hvb : ∀ b, v'.ownBlock = some b → w.heap.size + 1 + 1 + 1 ≤ b := fun b hb' => by
    rcases hv with e | e
    · exact (own_lt h.grow.own (e ▸ hb')).1
    · rw [e] at hb'; injection hb' with hb'; omega
  have hnb : ∀ x, x < w.heap.size + 1 + 1 + 1 → ¬ ownS v x := fun x hx e => by have := (own_lt h.grow.own e).1; omega
  have g4 := h.grow.snoc (lt_of_blk h.blk) hs hb hg hf (own_base hown hvb) (by
    rcases hv with e | e
    · exact .inl e
    · exact .inr fun b hb' => by rw [e] at hb'; injection hb' with hb'; omega)
  have b4 : w4.heap[w.heap.size + 1 + 1]? = some (.cells #[.int .i64 kk, .int .i64 aa, v] E (0, 0)) := (hf.block _ (by omega) (hnb _ (by omega))).trans ((hb.block _ (lt_of_blk h.blk)).trans h.blk)
  have r4 : w4.heap[w.heap.size + 1]? = some (.cells #[.int .i64 0, .int .i64 0, .slice none 0 0] E (0, 0)) := (hf.block _ (by omega) (hnb _ (by omega))).trans ((hb.block _ (lt_of_blk h.res)).trans h.res)
  have fx : Fr (fun x => x = w.heap.size + 1 + 1) w4 (w4.setCell ⟨w.heap.size + 1 + 1, 2, none⟩ v') := (Fr.refl _ w4).setCell _ _ (.inl rfl)
  have bw3 : Below w.heap.size w w3 := h.bel.trans (hb.mono h.bel.size)
  have bw4 : Below w.heap.size w w4 := bw3.trans (hf.below bw3.size (fun b e => by have := (own_lt h.grow.own e).1; omega))
  refine ⟨set_blk b4 2 v', (set_far (by simp) _).trans r4, g4.fr fx (fun b _ e => .inr e) (fun e => by have := hvb _ e; omega), bw4.trans (fx.below bw4.size (fun b e => by omega))⟩

theorem NSt.mid {E : TypeId} {w wr w3 w4 : World} {kk aa : Int} {gs : List Fm} {v : Value} {tt : List Value} (h : NSt E w wr kk aa gs v tt) (hb : Below wr.heap.size wr w3) (hf : Fr (ownS v) w3 w4) :
    w4.cell? ⟨w.heap.size + 1 + 1, 2, none⟩ = some v ∧ w4.frozen? ⟨w.heap.size + 1 + 1, 2, none⟩ = false := by
  have hs := h.size
  have hs3 := hb.size
  have hnb : ∀ x, x < w.heap.size + 1 + 1 + 1 → ¬ ownS v x := fun x hx e => by have := (own_lt h.grow.own e).1; omega
  have b4 : w4.heap[w.heap.size + 1 + 1]? = some (.cells #[.int .i64 kk, .int .i64 aa, v] E (0, 0)) := (hf.block _ (by omega) (hnb _ (by omega))).trans ((hb.block _ (lt_of_blk h.blk)).trans h.blk)
  exact ⟨cell_of_blk b4 2, frozen_of_blk b4 2⟩

end Go.Proofs.Ytbcabcdgblmnkaa
