/- Contracts of package intern: a new table. -/
import Derived.Test.YtbcabcdgblmnkaaNodeTab
namespace Go.Proofs.Ytbcabcdgblmnkaa
open Go.RowKit
set_option linter.unusedVariables false
set_option linter.unusedSimpArgs false

theorem store_out (mb : Nat) (ps : List (Nd × Nat)) (k a b : Int) (v : Nat) (vi : Int) (hv : vi = v) (w : World) (hm : w.heap[mb]? = some (.map (ents ps 0).toArray ps.length)) (hn : plook ps ⟨k, a, b⟩ = none) :
    ∃ w', (Instr.mapUpdate 135 (.map (some mb)) (.agg #[.int .i64 k, .int .i64 a, .int .i64 b]) (.int .i64 vi)).run Try.prog w = .ok () w' ∧ Fr (fun b => b = mb) w w' ∧
      w'.heap[mb]? = some (.map (ents (ps ++ [((⟨k, a, b⟩ : Nd), v)]) 0).toArray (ps ++ [((⟨k, a, b⟩ : Nd), v)]).length) := by
  subst hv
  refine ⟨_, run_store mb ps ⟨k, a, b⟩ v w hm hn, ⟨rfl, rfl, rfl, by simp, fun b hb hnb => ?_⟩, ?_⟩
  · show (w.heap.setIfInBounds mb _)[b]? = _
    rw [Array.getElem?_setIfInBounds, if_neg (fun e => hnb e.symm)]
  · show (w.heap.setIfInBounds mb _)[mb]? = _
    rw [Array.getElem?_setIfInBounds, if_pos rfl, if_pos (lt_of_blk hm), List.length_append]
    rfl

def ns0 : List Nd := [⟨1, 0, 0⟩, ⟨2, 0, 0⟩]
theorem maps0 : MapsTo [(⟨1, 0, 0⟩, 0), (⟨2, 0, 0⟩, 1)] ns0 := ⟨rfl, fun n => by
  simp only [plook, pfind, ns0, fidx]
  by_cases h1 : n = ⟨1, 0, 0⟩ <;> by_cases h2 : n = ⟨2, 0, 0⟩ <;> simp [h1, h2]⟩
theorem maps0' : MapsTo [(⟨2, 0, 0⟩, 1), (⟨1, 0, 0⟩, 0)] ns0 := ⟨rfl, fun n => by
  simp only [plook, pfind, ns0, fidx]
  by_cases h1 : n = ⟨1, 0, 0⟩
  · subst h1; simp
  · by_cases h2 : n = ⟨2, 0, 0⟩ <;> simp [h1, h2]⟩

set_option maxRecDepth 100000 in
set_option maxHeartbeats 2000000 in
theorem wake_new (tb : Nat) (w : World) (h : w.heap[tb]? = some (.cells #[.slice none 0 0, .map none] 137 (0, 0))) :
    Calls Try.prog 87 #[.pointer (some ⟨tb, 0, none⟩)] w fun e w' => e = .returned (.tuple #[]) ∧
      ∃ sv mb, Tab w' tb mb sv ns0 ∧ Fr (fun b => b = tb) w w' ∧ w.heap.size ≤ mb ∧ (∀ b, sv.ownBlock = some b → w.heap.size ≤ b) := by
  have hc0 : w.cell? ⟨tb, 0, none⟩ = some (.slice none 0 0) := (cell_of_blk h 0).trans rfl
  have hfz := frozen_of_blk h 0
  have htb := lt_of_blk h
  obtain ⟨W0, hW0⟩ : ∃ W0 : World, W0 = (((w.setCell ⟨tb, 0, none⟩ (.slice (some ⟨w.heap.size, 0, none⟩) 2 2)).alloc (.cells #[.int .i64 1, .int .i64 0, .int .i64 0, .int .i64 2, .int .i64 0, .int .i64 0] 96)).alloc (.map #[] 0)).drew := ⟨_, rfl⟩
  have hsz : ((w.setCell ⟨tb, 0, none⟩ (.slice (some ⟨w.heap.size, 0, none⟩) 2 2)).alloc (.cells #[.int .i64 1, .int .i64 0, .int .i64 0, .int .i64 2, .int .i64 0, .int .i64 0] 96)).heap.size = w.heap.size + 1 := by simp [World.setCell, World.alloc]
  have hm0 : W0.heap[w.heap.size + 1]? = some (.map (ents [] 0).toArray ([] : List (Nd × Nat)).length) := by
    rw [hW0]
    show (World.alloc _ _).heap[w.heap.size + 1]? = _
    rw [← hsz]
    exact heap_alloc_new _ _
  have hfr0 : Fr (fun b => b = tb) w W0 := by
    rw [hW0]
    exact Fr.drew (Fr.alloc (Fr.alloc (Fr.setCell (p := ⟨tb, 0, none⟩) (Fr.refl (fun b => b = tb) w) _ (.inl rfl)) _) _)
  have hb0 : W0.heap[tb]? = some (.cells #[.slice (some ⟨w.heap.size, 0, none⟩) 2 2, .map none] 137 (0, 0)) := by
    rw [hW0]
    exact ((alloc_old _ (by rw [hsz]; omega)).trans (alloc_old _ (by simpa [World.setCell] using htb))).trans (set_blk h 0 _)
  obtain ⟨W1, e1, f1, m1⟩ := store_out _ [] 1 0 0 0 0 rfl W0 hm0 rfl
  obtain ⟨W2, e2, f2, m2⟩ := store_out _ _ 2 0 0 1 1 rfl W1 m1 rfl
  obtain ⟨V1, d1, g1, k1⟩ := store_out _ [] 2 0 0 1 1 rfl W0 hm0 rfl
  obtain ⟨V2, d2, g2, k2⟩ := store_out _ _ 1 0 0 0 0 rfl V1 k1 rfl
  have hown0 : W0.ownsRow 0 96 3 (.slice (some ⟨w.heap.size, 0, none⟩) 2 2) 2 (ndCells ns0) := by
    have h0 : (((w.setCell ⟨tb, 0, none⟩ (.slice (some ⟨w.heap.size, 0, none⟩) 2 2))).alloc (.cells #[.int .i64 1, .int .i64 0, .int .i64 0, .int .i64 2, .int .i64 0, .int .i64 0] 96)).ownsRow 0 96 3 (.slice (some ⟨w.heap.size, 0, none⟩) 2 2) 2 (ndCells ns0) := by
      refine ⟨rfl, .inr ⟨w.heap.size, 2, #[.int .i64 1, .int .i64 0, .int .i64 0, .int .i64 2, .int .i64 0, .int .i64 0], rfl, Nat.zero_le _, ?_, by decide, by decide, by decide, rfl⟩⟩
      have := heap_alloc_new (w.setCell ⟨tb, 0, none⟩ (.slice (some ⟨w.heap.size, 0, none⟩) 2 2)) (.cells #[.int .i64 1, .int .i64 0, .int .i64 0, .int .i64 2, .int .i64 0, .int .i64 0] 96)
      simpa [World.setCell] using this
    rw [hW0]
    exact (Fr.drew (Fr.alloc (Fr.refl (fun _ => False) _) _)).own h0 (fun _ _ h => h)
  have fin : ∀ (V1 V2 : World) (ps : List (Nd × Nat)), Fr (fun b => b = w.heap.size + 1) W0 V1 → Fr (fun b => b = w.heap.size + 1) V1 V2 → V2.heap[w.heap.size + 1]? = some (.map (ents ps 0).toArray ps.length) → MapsTo ps ns0 →
      Tab (V2.setCell ⟨tb, 1, none⟩ (.map (some (w.heap.size + 1)))) tb (w.heap.size + 1) (.slice (some ⟨w.heap.size, 0, none⟩) 2 2) ns0 ∧ Fr (fun b => b = tb) w (V2.setCell ⟨tb, 1, none⟩ (.map (some (w.heap.size + 1)))) ∧
      V2.cell? ⟨tb, 1, none⟩ = some (.map none) ∧ V2.frozen? ⟨tb, 1, none⟩ = false := by
    intro V1 V2 ps p1 p2 hm hps
    have p3 : Fr (fun b => b = w.heap.size + 1) W0 V2 := p1.trans p2 (fun b hb => .inl hb)
    have q2 : Fr (fun b => b = tb) w V2 := hfr0.trans p3 (fun b hb => .inr (by omega))
    have hbt : V2.heap[tb]? = some (.cells #[.slice (some ⟨w.heap.size, 0, none⟩) 2 2, .map none] 137 (0, 0)) := (p3.block tb (lt_of_blk hb0) (by omega)).trans hb0
    have q3 : Fr (fun b => b = tb) w (V2.setCell ⟨tb, 1, none⟩ (.map (some (w.heap.size + 1)))) := q2.setCell ⟨tb, 1, none⟩ _ (.inl rfl)
    have hown2 : V2.ownsRow 0 96 3 (.slice (some ⟨w.heap.size, 0, none⟩) 2 2) 2 (ndCells ns0) := p3.own hown0 (fun b hb => by
      have : w.heap.size = b := by simpa [Value.ownBlock] using hb
      omega)
    have hr : Fr (fun b => b = tb) V2 (V2.setCell ⟨tb, 1, none⟩ (.map (some (w.heap.size + 1)))) := (Fr.refl _ _).setCell ⟨tb, 1, none⟩ _ (.inl rfl)
    refine ⟨⟨set_blk hbt 1 _, hr.own hown2 (fun b hb => by
      have : w.heap.size = b := by simpa [Value.ownBlock] using hb
      omega), ⟨ps, (hr.block _ (lt_of_blk hm) (by omega)).trans (by rw [hm, hps.len]), hps⟩, by decide, by decide⟩, q3, (cell_of_blk hbt 1).trans rfl, frozen_of_blk hbt 1⟩
  obtain ⟨t1, t2, t3, t4⟩ := fin W1 W2 _ f1 f2 m2 maps0
  obtain ⟨u1, u2, u3, u4⟩ := fin V1 V2 _ g1 g2 k2 maps0'
  have T1 := Lib.hid t1
  have T2 := Lib.hid t2
  have U1 := Lib.hid u1
  have U2 := Lib.hid u2
  have hmm := @run_makeMap Try.prog
  rw [hW0] at e1 d1
  clear hm0 hfr0 hb0 f1 m1 f2 m2 g1 k1 g2 k2 fin hown0 t1 t2 u1 u2 hsz hW0 h
  go_enter Try.func87, Try.ntmps87
  go_wp2_with fail
  go_region
  · go_wp2_with fail
    go_end0
    exact ⟨rfl, _, _, T1.out, T2.out, by omega, fun b hb => by
      have : w.heap.size = b := by simpa [Value.ownBlock] using hb
      omega⟩
  · go_wp2_with fail
    go_end0
    exact ⟨rfl, _, _, U1.out, U2.out, by omega, fun b hb => by
      have : w.heap.size = b := by simpa [Value.ownBlock] using hb
      omega⟩
end Go.Proofs.Ytbcabcdgblmnkaa
