/- Contract of package logic: nnf. -/
import Derived.Test.YtbcabcdgblmnkaaOwnBase
import Derived.Test.YtbcabcdgblmnkaaFmNnf
import Derived.Deep.DeepCutAuto
namespace Go.Proofs.Ytbcabcdgblmnkaa
open Go.RowKit
set_option linter.unusedVariables false
set_option linter.unusedSimpArgs false

theorem fr_set3 (w : World) (X : Nat) (a b c : Value) : Fr (fun x => x = X) w (((w.setCell ⟨X, 0, none⟩ a).setCell ⟨X, 1, none⟩ b).setCell ⟨X, 2, none⟩ c) :=
  (((Fr.refl (fun x => x = X) w).setCell ⟨X, 0, none⟩ a (.inl rfl)).setCell ⟨X, 1, none⟩ b (.inl rfl)).setCell ⟨X, 2, none⟩ c (.inl rfl)

theorem nnfL_map (fs : List Fm) (neg : Bool) : nnfL fs neg = fs.map fun f => nnfF f neg := by
  induction fs with
  | nil => rfl
  | cons f fs ih => rw [nnfL, ih]; rfl
theorem nnfL_take (fs : List Fm) (neg : Bool) (i : Nat) (f : Fm) (h : fs[i]? = some f) : nnfL (fs.take (i + 1)) neg = nnfL (fs.take i) neg ++ [nnfF f neg] := by
  rw [nnfL_map, nnfL_map, List.take_add_one, h]
  simp
theorem info_f : (Try.prog.info? 58).map (fun i => (i.zero, i.size, i.bytes)) = some (some (.agg #[.int .i64 0, .int .i64 0, .slice none 0 0]), 3, 40) := by kernel_rfl
/-- no node has more than 20000 parts. -/
inductive Fits : List Fm → Prop
  | mk (fs : List Fm) (hl : fs.length ≤ 20000) (h : ∀ (i : Nat) (f : Fm), fs[i]? = some f → Fits f.sub) : Fits fs

theorem new_at (W : World) (o : Obj) (s : Nat) (h : W.heap.size = s) : (W.alloc o).heap[s]? = some o := h ▸ heap_alloc_new W o
/-- how the world stands while the formula grows: out lies at w.heap.size + 2, the answer's place at w.heap.size + 1. -/
structure NSt (E : TypeId) (w wr : World) (kk aa : Int) (gs : List Fm) (v : Value) (tt : List Value) : Prop where
  blk : wr.heap[w.heap.size + 1 + 1]? = some (.cells #[.int .i64 kk, .int .i64 aa, v] E (0, 0))
  res : wr.heap[w.heap.size + 1]? = some (.cells #[.int .i64 0, .int .i64 0, .slice none 0 0] E (0, 0))
  grow : Grow (w.heap.size + 1 + 1 + 1) (w.heap.size + 1 + 1) wr gs v E tt
  bel : Below w.heap.size w wr
theorem NSt.size {E : TypeId} {w wr : World} {kk aa : Int} {gs : List Fm} {v : Value} {tt : List Value} (h : NSt E w wr kk aa gs v tt) : w.heap.size + 1 + 1 + 1 ≤ wr.heap.size := lt_of_blk h.blk
theorem NSt.belo {E : TypeId} {w wr w' : World} {kk aa : Int} {gs : List Fm} {v : Value} {tt : List Value} (h : NSt E w wr kk aa gs v tt) (hb : Below wr.heap.size wr w') : NSt E w w' kk aa gs v tt :=
  ⟨(hb.block _ (lt_of_blk h.blk)).trans h.blk, (hb.block _ (lt_of_blk h.res)).trans h.res, ⟨own_below h.grow.own hb, h.grow.len, fun j f s hf hs => (h.grow.sub j f s hf hs).belo hb⟩, h.bel.trans (hb.mono h.bel.size)⟩
/-- one more part: the call's world w3, the append's w4. -/
theorem NSt.snoc {E : TypeId} {w wr w3 w4 : World} {kk aa : Int} {gs : List Fm} {v v' : Value} {tt : List Value} {g : Fm} {s : Value} (h : NSt E w wr kk aa gs v tt) (hb : Below wr.heap.size wr w3) (hg : FOn (fun b => wr.heap.size ≤ b) w3 g.sub s)
    (hf : Fr (ownS v) w3 w4) (hown : w4.ownsRow 0 E 3 v' (gs.length + 1) (fCells gs tt ++ [.int .i64 g.k, .int .i64 g.a, s])) (hv : v'.ownBlock = v.ownBlock ∨ v'.ownBlock = some (w3.heap.size + 1)) :
    NSt E w (w4.setCell ⟨w.heap.size + 1 + 1, 2, none⟩ v') kk aa (gs ++ [g]) v' (tt ++ [s]) := by
  have hs := h.size
  have hs3 := hb.size
  have hvb : ∀ b, v'.ownBlock = some b → w.heap.size + 1 + 1 + 1 ≤ b := fun b hb' => by
    rcases hv with e | e
    · exact (own_lt h.grow.own (e ▸ hb')).1
    · rw [e] at hb'; injection hb' with hb'; omega
  have hnb : ∀ x, x < w.heap.size + 1 + 1 + 1 → ¬ ownS v x := fun x hx e => by have := (own_lt h.grow.own e).1; omega
  have g4 := h.grow.snoc (lt_of_blk h.blk) hs hb hg hf (own_base hown hvb) (by
    rcases hv with e | e
    · exact .inl e
    · exact .inr fun b hb' => by rw [e] at hb'; injection hb' with hb'; omega)
  have b4 : w4.heap[w.heap.size + 1 + 1]? = some (.cells #[.int .i64 kk, .int .i64 aa, v] E (0, 0)) := (hf.block _ (by omega) (hnb _ (by omega))).trans ((hb.block _ (lt_of_blk h.blk)).trans h.blk)
  have r4 : w4.heap[w.heap.size + 1]? = some (.cells #[.int .i64 0, .int .i64 0, .slice none 0 0] E (0, 0)) := (hf.block _ (by omega) (hnb _ (by omega))).trans ((hb.block _ (lt_of_blk h.res)).trans h.res)
  have fx : Fr (fun x => x = w.heap.size + 1 + 1) w4 (w4.setCell ⟨w.heap.size + 1 + 1, 2, none⟩ v') := (Fr.refl _ w4).setCell _ _ (.inl rfl)
  have bw3 : Below w.heap.size w w3 := h.bel.trans (hb.mono h.bel.size)
  have bw4 : Below w.heap.size w w4 := bw3.trans (hf.below bw3.size (fun b e => by have := (own_lt h.grow.own e).1; omega))
  refine ⟨set_blk b4 2 v', (set_far (by simp) _).trans r4, g4.fr fx (fun b _ e => .inr e) (fun e => by have := hvb _ e; omega), bw4.trans (fx.below bw4.size (fun b e => by omega))⟩

theorem NSt.mid {E : TypeId} {w wr w3 w4 : World} {kk aa : Int} {gs : List Fm} {v : Value} {tt : List Value} (h : NSt E w wr kk aa gs v tt) (hb : Below wr.heap.size wr w3) (hf : Fr (ownS v) w3 w4) :
    w4.cell? ⟨w.heap.size + 1 + 1, 2, none⟩ = some v ∧ w4.frozen? ⟨w.heap.size + 1 + 1, 2, none⟩ = false := by
  have hs := h.size
  have hs3 := hb.size
  have hnb : ∀ x, x < w.heap.size + 1 + 1 + 1 → ¬ ownS v x := fun x hx e => by have := (own_lt h.grow.own e).1; omega
  have b4 : w4.heap[w.heap.size + 1 + 1]? = some (.cells #[.int .i64 kk, .int .i64 aa, v] E (0, 0)) := (hf.block _ (by omega) (hnb _ (by omega))).trans ((hb.block _ (lt_of_blk h.blk)).trans h.blk)
  exact ⟨cell_of_blk b4 2, frozen_of_blk b4 2⟩

end Go.Proofs.Ytbcabcdgblmnkaa
