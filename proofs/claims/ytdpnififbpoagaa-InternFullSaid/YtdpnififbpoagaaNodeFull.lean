/- Contracts: a table that New did not make, and none. -/
import Derived.Test.YtdpnififbpoagaaNodeVars
namespace Go.Proofs.Ytdpnififbpoagaa
open Go.RowKit
set_option linter.unusedVariables false
set_option linter.unusedSimpArgs false

/-- a table that was made behind w: at tb, its parts new. -/
structure Fresh (w w' : World) (tb mb : Nat) (sv : Value) (ns : List Nd) : Prop where
  tab : Tab w' tb mb sv ns
  fr : Fr (fun b => b = tb) w w'
  mb : w.heap.size ≤ mb
  sv : ∀ b, sv.ownBlock = some b → w.heap.size ≤ b

set_option maxRecDepth 100000 in
set_option maxHeartbeats 4000000 in
theorem dozero_any (tb : Nat) (a : Int) (ha : 0 ≤ a) (w : World) (h : w.heap[tb]? = some (.cells #[.slice none 0 0, .map none] 86 (0, 0))) :
    Calls Try.prog 22 #[.pointer (some ⟨tb, 0, none⟩), .agg #[.int .i64 3, .int .i64 a, .int .i64 0]] w fun e w' => e = .returned (ansV (putN ns0 ⟨3, a, 0⟩).2) ∧ ∃ sv mb, Fresh w w' tb mb sv (putN ns0 ⟨3, a, 0⟩).1 := by
  have htb : tb < w.heap.size := lt_of_blk h
  have L := len_zero tb (w.alloc (.cells #[.int .i64 3, .int .i64 a, .int .i64 0] 36)) ((alloc_old _ htb).trans h)
  have P := fun mb sv W (hW : Tab W tb mb sv ns0) => put_any tb mb sv ns0 ⟨3, a, 0⟩ W hW
  simp only [ansV] at P
  have HP := Lib.hid P
  have hne : ¬ w.heap.size = tb := by omega
  clear P h
  go_enter Try.func22, Try.ntmps22
  go_wp2_with (first | (go_at_call 20; refine L.mono ?_; rintro e w2 ⟨rfl, sv, mb, ht, hfr, hmb, hsv⟩; have c0 := (hfr.cell (p := ⟨w.heap.size, 0, none⟩) (by simp) hne).trans (cell_of_blk (heap_alloc_new w _) 0); have c1 := (hfr.cell (p := ⟨w.heap.size, 1, none⟩) (by simp) hne).trans (cell_of_blk (heap_alloc_new w _) 1); have c2 := (hfr.cell (p := ⟨w.heap.size, 2, none⟩) (by simp) hne).trans (cell_of_blk (heap_alloc_new w _) 2); have hs2 : w.heap.size < w2.heap.size := Nat.lt_of_lt_of_le (by simp) hfr.size; simp at c0 c1 c2; have HT := Lib.hid ht; have HFR := Lib.hid hfr; have HMB := Lib.hid hmb; have HSV := Lib.hid hsv; clear ht hfr hmb hsv) | (go_at_call 49; refine (HP.out _ _ _ (HT.out.below ((Below.refl _ _).alloc (Nat.le_refl _) _))).mono ?_; rintro e w' ⟨rfl, haft⟩))
  go_ret2
  obtain ⟨sv3, ht3, hf3, hn3⟩ := haft
  have hmb := HMB.out
  have hsv := HSV.out
  simp only [World.alloc, Array.size_push] at hmb hsv
  refine ⟨rfl, sv3, mb, ht3, ?_, by omega, fun b hb => ?_⟩
  · have f1 : Fr (fun b => b = tb) w w2 := ((Fr.refl _ w).alloc _).trans HFR.out (fun b hb => .inl hb)
    refine (f1.alloc _).trans hf3 (fun b hb => ?_)
    rcases hb with rfl | rfl | hb
    · exact .inl rfl
    · right; omega
    · right; have := hsv b hb; omega
  · rcases hn3 b hb with h | h
    · have := hsv b h; omega
    · simp at h; omega

theorem do_nil (k a b : Int) (w : World) :
    Calls Try.prog 22 #[.pointer none, .agg #[.int .i64 k, .int .i64 a, .int .i64 b]] w fun e w' => e = .returned (.tuple #[.int .i64 0, .bool false]) ∧ Below w.heap.size w w' := by
  have L := len_nil
  go_enter Try.func22, Try.ntmps22
  go_wp2_with (go_at_call 20; refine (L _).mono ?_; rintro e w' ⟨rfl, rfl⟩)
  go_ret2
  exact ⟨rfl, ((Below.refl _ _).alloc (Nat.le_refl _) _).alloc (by simp) _⟩
theorem node_nil (w : World) :
    Calls Try.prog 41 #[.pointer none, .int .i64 0] w fun e w' => e = .returned (.tuple #[.agg #[.int .i64 0, .int .i64 0, .int .i64 0], .bool false]) ∧ Below w.heap.size w w' := by
  have L := len_nil
  go_enter Try.func41, Try.ntmps41
  go_wp2_with (go_at_call 20; refine (L _).mono ?_; rintro e w' ⟨rfl, rfl⟩)
  refine bodyPost_ret (v := .tuple #[.agg #[.int .i64 0, .int .i64 0, .int .i64 0], .bool false]) (by simp [results, Try.results41, go_sem]) rfl ?_
  exact ⟨rfl, (Below.refl _ _).alloc (Nat.le_refl _) _⟩
theorem eval_nil (w : World) :
    Calls Try.prog 21 #[.pointer none, .int .i64 0, .slice none 0 0] w fun e w' => e = .returned (.tuple #[.bool false, .bool false]) ∧ w' = w := by
  have L := len_nil
  go_enter Try.func21, Try.ntmps21
  go_wp2_with (go_at_call 20; refine (L _).mono ?_; rintro e w' ⟨rfl, rfl⟩)
  go_ret2
  exact ⟨rfl, rfl⟩
theorem reach_nil (w : World) :
    Calls Try.prog 40 #[.pointer none, .int .i64 0] w fun e w' => e = .returned (.slice none 0 0) ∧ w' = w := by
  have L := len_nil
  go_enter Try.func40, Try.ntmps40
  go_wp2_with (go_at_call 20; refine (L _).mono ?_; rintro e w' ⟨rfl, rfl⟩)
  go_ret
  exact ⟨rfl, rfl⟩
end Go.Proofs.Ytdpnififbpoagaa
