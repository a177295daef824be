/- Contracts of package intern: opposite, not. -/
import Derived.Test.YtbcabcdgblmnkaaNodeDo
namespace Go.Proofs.Ytbcabcdgblmnkaa
open Go.RowKit
set_option linter.unusedVariables false
set_option linter.unusedSimpArgs false

def nd (ns : List Nd) (i : Nat) : Nd := ns.getD i ⟨0, 0, 0⟩
theorem nd_get (ns : List Nd) (i : Nat) (h : i < ns.length) : nd ns i = ns[i] := by simp [nd, h]
def oppN (ns : List Nd) (a b : Nat) : Bool := (decide ((nd ns a).k = 4) && decide ((nd ns a).a = (b : Int))) || (decide ((nd ns b).k = 4) && decide ((nd ns b).a = (a : Int)))

set_option maxHeartbeats 4000000 in
theorem opposite_any (tb mb : Nat) (sv : Value) (ns : List Nd) (a b : Nat) (w : World) (h : Tab w tb mb sv ns) (ha : a < ns.length) (hb : b < ns.length) :
    Calls Try.prog 101 #[.pointer (some ⟨tb, 0, none⟩), .int .i64 (a : Int), .int .i64 (b : Int)] w fun e w' => e = .returned (.bool (oppN ns a b)) ∧ Below w.heap.size w w' := by
  obtain ⟨hc0, hc1⟩ := h.cells
  have htb := lt_of_blk h.blk
  obtain ⟨g, c, rfl, hg⟩ := h.form
  obtain ⟨x0, x1, x2⟩ := h.node a ha
  obtain ⟨y0, y1, y2⟩ := h.node b hb
  have hmost := h.most
  unfold oppN
  rw [nd_get ns a ha, nd_get ns b hb]
  generalize ns[a] = x at *
  generalize ns[b] = y at *
  obtain ⟨xk, xa, xb⟩ := x
  obtain ⟨yk, ya, yb⟩ := y
  simp only at x0 x1 x2 y0 y1 y2
  clear h hc1
  simp only
  go_enter Try.func101, Try.ntmps101
  go_wp2_with fail
  go_region
  all_goals
    by_cases h1 : xk = 4 <;> by_cases h2 : xa = (b : Int) <;> by_cases h3 : yk = 4 <;> by_cases h4 : ya = (a : Int) <;>
      (go_wp2_with fail
       go_ret
       exact ⟨by simp [h1, h2, h3, h4], (((Below.refl _ _).alloc (Nat.le_refl _) _).alloc (by simp) _).drew⟩)

def notN (ns : List Nd) (a : Nat) : List Nd × Option Nat :=
  if (nd ns a).k = 1 then (ns, some 1) else if (nd ns a).k = 2 then (ns, some 0) else if (nd ns a).k = 4 then (ns, some (nd ns a).a.toNat) else putN ns ⟨4, a, 0⟩

set_option maxHeartbeats 2000000 in
theorem not_any (tb mb : Nat) (sv : Value) (ns : List Nd) (a : Nat) (w : World) (h : Tab w tb mb sv ns) (ha : a < ns.length) (hneg : (nd ns a).k = 4 → 0 ≤ (nd ns a).a) :
    Calls Try.prog 98 #[.pointer (some ⟨tb, 0, none⟩), .int .i64 (a : Int)] w fun e w' => e = .returned (ansV (notN ns a).2) ∧ After w w' tb mb sv (notN ns a).1 := by
  have P := fun W (hW : Tab W tb mb sv ns) => put_any tb mb sv ns ⟨4, a, 0⟩ W hW
  simp only [ansV] at P
  have H := Lib.hid h
  have HP := Lib.hid P
  obtain ⟨hc0, hc1⟩ := h.cells
  have htb := lt_of_blk h.blk
  obtain ⟨g, c, rfl, hg⟩ := h.form
  obtain ⟨x0, x1, x2⟩ := h.node a ha
  unfold notN
  rw [nd_get ns a ha] at hneg ⊢
  generalize ns[a] = x at *
  obtain ⟨xk, xa, xb⟩ := x
  simp only at x0 x1 x2 hneg ⊢
  clear h hc1 P
  by_cases h1 : xk = 1
  · subst h1
    simp only [if_true]
    clear hneg
    go_enter Try.func98, Try.ntmps98
    go_wp2_with fail
    go_ret2
    exact ⟨rfl, After.of_below H.out ((Below.refl _ _).alloc (Nat.le_refl _) _)⟩
  · by_cases h2 : xk = 2
    · subst h2
      clear hneg
      go_enter Try.func98, Try.ntmps98
      go_wp2_with fail
      go_ret2
      exact ⟨rfl, After.of_below H.out ((Below.refl _ _).alloc (Nat.le_refl _) _)⟩
    · by_cases h4 : xk = 4
      · subst h4
        obtain ⟨m, rfl⟩ : ∃ m : Nat, xa = m := ⟨xa.toNat, by have := hneg rfl; omega⟩
        clear hneg
        go_enter Try.func98, Try.ntmps98
        go_wp2_with fail
        go_ret2
        exact ⟨rfl, After.of_below H.out ((Below.refl _ _).alloc (Nat.le_refl _) _)⟩
      · simp only [h1, h2, h4, if_false]
        clear hneg
        go_enter Try.func98, Try.ntmps98
        go_wp2_with (go_at_call 97; refine (HP.out _ (H.out.below ((Below.refl _ _).alloc (Nat.le_refl _) _))).mono ?_; rintro e w' ⟨rfl, haft⟩)
        go_ret2
        exact ⟨rfl, After.trans ((Fr.refl _ _).alloc _) (fun b hb => .inl hb) haft⟩
end Go.Proofs.Ytbcabcdgblmnkaa
