/- Contracts of package intern: New, Len, not, opposite, pair. -/
import Derived.Test.YtbcabcdgblmnkaaNodeNew
namespace Go.Proofs.Ytbcabcdgblmnkaa
open Go.RowKit
set_option linter.unusedVariables false
set_option linter.unusedSimpArgs false

/-- From a table to a table: nothing beside it is written. -/
def After (w w' : World) (tb mb : Nat) (sv : Value) (ns : List Nd) : Prop :=
  ∃ sv', Tab w' tb mb sv' ns ∧ Fr (TS tb mb sv) w w' ∧ (∀ b, sv'.ownBlock = some b → sv.ownBlock = some b ∨ w.heap.size ≤ b)
theorem After.refl {w : World} {tb mb : Nat} {sv : Value} {ns : List Nd} (h : Tab w tb mb sv ns) : After w w tb mb sv ns := ⟨sv, h, Fr.refl _ _, fun _ hb => .inl hb⟩
theorem After.of_below {w w' : World} {tb mb : Nat} {sv : Value} {ns : List Nd} (h : Tab w tb mb sv ns) (hb : Below w.heap.size w w') : After w w' tb mb sv ns := ⟨sv, h.below hb, Fr.of_below hb, fun _ hb => .inl hb⟩
theorem After.trans {w w1 w2 : World} {tb mb : Nat} {sv sv1 : Value} {ns : List Nd} (hf : Fr (TS tb mb sv) w w1) (hn : ∀ b, sv1.ownBlock = some b → sv.ownBlock = some b ∨ w.heap.size ≤ b) (h : After w1 w2 tb mb sv1 ns) : After w w2 tb mb sv ns := by
  obtain ⟨sv2, h1, h2, h3⟩ := h
  refine ⟨sv2, h1, hf.trans h2 fun b hb => ?_, fun b hb => ?_⟩
  · rcases hb with rfl | rfl | hb
    · exact .inl (.inl rfl)
    · exact .inl (.inr (.inl rfl))
    · rcases hn b hb with h | h
      · exact .inl (.inr (.inr h))
      · exact .inr h
  · rcases h3 b hb with h | h
    · exact hn b h
    · exact .inr (Nat.le_trans hf.size h)
theorem After.below {w w1 w2 : World} {tb mb : Nat} {sv : Value} {ns : List Nd} (h : After w w1 tb mb sv ns) (hb : Below w1.heap.size w1 w2) : After w w2 tb mb sv ns := by
  obtain ⟨sv1, h1, h2, h3⟩ := h
  exact After.trans h2 h3 (After.of_below h1 hb)
theorem After.of_drawn {w w' : World} {tb mb : Nat} {sv : Value} {ns : List Nd} (q : Nat) (h : After (w.drewN q) w' tb mb sv ns) : After w w' tb mb sv ns := by
  obtain ⟨sv1, h1, h2, h3⟩ := h
  exact ⟨sv1, h1, ⟨h2.os, h2.tape, h2.output, h2.size, h2.block⟩, h3⟩

def putN (ns : List Nd) (n : Nd) : List Nd × Option Nat :=
  match fidx ns n 0 with
  | some i => (ns, some i)
  | none => if ns.length < 20000 then (ns ++ [n], some ns.length) else (ns, none)
def ansV (o : Option Nat) : Value := .tuple #[.int .i64 ((o.getD 0 : Nat) : Int), .bool o.isSome]

theorem put_any (tb mb : Nat) (sv : Value) (ns : List Nd) (n : Nd) (w : World) (h : Tab w tb mb sv ns) :
    Calls Try.prog 97 #[.pointer (some ⟨tb, 0, none⟩), .agg #[.int .i64 n.k, .int .i64 n.a, .int .i64 n.b]] w fun e w' => e = .returned (ansV (putN ns n).2) ∧ After w w' tb mb sv (putN ns n).1 := by
  unfold putN ansV
  cases hf : fidx ns n 0 with
  | some i =>
    refine Calls.mono (put_found tb mb sv ns n i w h hf) fun e w' ⟨he, hb⟩ => ⟨he, After.of_below h hb⟩
  | none =>
    by_cases hm : ns.length < 20000
    · simp only [hm, if_true]
      refine Calls.mono (put_new tb mb sv ns n w h hf hm) fun e w' ⟨he, hb⟩ => ⟨he, hb⟩
    · simp only [hm, if_false]
      refine Calls.mono (put_full tb mb sv ns n w h hf (by omega)) fun e w' ⟨he, hb⟩ => ⟨he, After.of_below h hb⟩

theorem wake_old (tb mb : Nat) (sv : Value) (ns : List Nd) (w : World) (h : Tab w tb mb sv ns) :
    Calls Try.prog 87 #[.pointer (some ⟨tb, 0, none⟩)] w fun e w' => e = .returned (.tuple #[]) ∧ w' = w := by
  obtain ⟨hc0, hc1⟩ := h.cells
  obtain ⟨g, c, rfl, hg⟩ := h.form
  have h2 : ¬ ((ns.length : Int) = 0) := by have := h.two; omega
  clear h
  go_enter Try.func87, Try.ntmps87
  go_wp2_with fail
  go_end0
  exact ⟨rfl, rfl⟩

theorem len_old (tb mb : Nat) (sv : Value) (ns : List Nd) (w : World) (h : Tab w tb mb sv ns) :
    Calls Try.prog 71 #[.pointer (some ⟨tb, 0, none⟩)] w fun e w' => e = .returned (.int .i64 (ns.length : Int)) ∧ w' = w := by
  have N := wake_old tb mb sv ns w h
  obtain ⟨hc0, hc1⟩ := h.cells
  obtain ⟨g, c, rfl, hg⟩ := h.form
  clear h
  go_enter Try.func71, Try.ntmps71
  go_wp2_with (go_at_call 87; refine N.mono ?_; rintro e w' ⟨rfl, rfl⟩)
  go_ret
  exact ⟨rfl, rfl⟩
theorem len_nil (w : World) :
    Calls Try.prog 71 #[.pointer none] w fun e w' => e = .returned (.int .i64 0) ∧ w' = w := by
  go_enter Try.func71, Try.ntmps71
  go_wp2_with fail
  go_ret
  exact ⟨rfl, rfl⟩
theorem len_zero (tb : Nat) (w : World) (h : w.heap[tb]? = some (.cells #[.slice none 0 0, .map none] 137 (0, 0))) :
    Calls Try.prog 71 #[.pointer (some ⟨tb, 0, none⟩)] w fun e w' => e = .returned (.int .i64 2) ∧
      ∃ sv mb, Tab w' tb mb sv ns0 ∧ Fr (fun b => b = tb) w w' ∧ w.heap.size ≤ mb ∧ (∀ b, sv.ownBlock = some b → w.heap.size ≤ b) := by
  have N := wake_new tb w h
  clear h
  go_enter Try.func71, Try.ntmps71
  go_wp2_with (go_at_call 87; refine N.mono ?_; rintro e w' ⟨rfl, sv, mb, ht, hfr, hmb, hsv⟩; obtain ⟨hc0, hc1⟩ := ht.cells; obtain ⟨g, c, rfl, hg⟩ := ht.form; have HT := Lib.hid ht; have HS := Lib.hid hsv; clear ht hsv)
  go_ret
  exact ⟨rfl, _, mb, HT.out, hfr, hmb, HS.out⟩

theorem new_tab (w : World) :
    Calls Try.prog 69 #[] w fun e w' => e = .returned (.pointer (some ⟨w.heap.size, 0, none⟩)) ∧
      ∃ sv mb, Tab w' w.heap.size mb sv ns0 ∧ Below w.heap.size w w' ∧ w.heap.size ≤ mb ∧ (∀ b, sv.ownBlock = some b → w.heap.size ≤ b) := by
  have N := wake_new w.heap.size (w.alloc (.cells #[.slice none 0 0, .map none] 137)) (heap_alloc_new w _)
  go_enter Try.func69, Try.ntmps69
  go_wp2_with (go_at_call 87; refine N.mono ?_; rintro e w' ⟨rfl, sv, mb, ht, hfr, hmb, hsv⟩)
  go_ret
  have hs : (w.alloc (.cells #[.slice none 0 0, .map none] 137)).heap.size = w.heap.size + 1 := by simp
  rw [hs] at hmb hsv
  have h1 : Fr (fun b => b = w.heap.size) w (w.alloc (.cells #[.slice none 0 0, .map none] 137)) := (Fr.refl _ _).alloc _
  exact ⟨rfl, sv, mb, ht, (h1.trans hfr (fun b hb => .inl hb)).below (Nat.le_refl _) (fun b hb => Nat.le_of_eq hb.symm), by omega, fun b hb => by have := hsv b hb; omega⟩
end Go.Proofs.Ytbcabcdgblmnkaa
