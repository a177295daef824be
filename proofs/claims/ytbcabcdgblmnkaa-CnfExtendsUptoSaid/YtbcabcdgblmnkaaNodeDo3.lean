/- Contracts of package intern: pair. -/
import Derived.Test.YtbcabcdgblmnkaaNodeDo2
namespace Go.Proofs.Ytbcabcdgblmnkaa
open Go.RowKit
set_option linter.unusedVariables false
set_option linter.unusedSimpArgs false

def pairN (ns : List Nd) (kind : Int) (a b u z : Nat) : List Nd × Option Nat :=
  if a = z ∨ b = z ∨ oppN ns a b = true then (ns, some z)
  else if a = u ∨ a = b then (ns, some b)
  else if b = u then (ns, some a)
  else putN ns ⟨kind, (min a b : Nat), (max a b : Nat)⟩

set_option maxRecDepth 100000 in
set_option maxHeartbeats 2000000 in
theorem pair_any (tb mb : Nat) (sv : Value) (ns : List Nd) (kind : Int) (a b u z : Nat) (w : World) (h : Tab w tb mb sv ns) (ha : a < ns.length) (hb : b < ns.length) :
    Calls Try.prog 99 #[.pointer (some ⟨tb, 0, none⟩), .int .i64 kind, .int .i64 (a : Int), .int .i64 (b : Int), .int .i64 (u : Int), .int .i64 (z : Int)] w fun e w' =>
      e = .returned (ansV (pairN ns kind a b u z).2) ∧ After w w' tb mb sv (pairN ns kind a b u z).1 := by
  have O := opposite_any tb mb sv ns a b w h ha hb
  have P := fun W (hW : Tab W tb mb sv ns) => put_any tb mb sv ns ⟨kind, (min a b : Nat), (max a b : Nat)⟩ W hW
  simp only [ansV] at P
  have H := Lib.hid h
  have HP := Lib.hid P
  unfold pairN
  clear h P
  by_cases h1 : a = z
  · subst h1
    simp only [true_or, if_true]
    clear O
    go_enter Try.func99, Try.ntmps99
    go_wp2_with fail
    go_ret2
    exact ⟨rfl, After.refl H.out⟩
  · have h1' : ¬ ((a : Int) = (z : Int)) := by omega
    have h1'' : (((a : Int) == (z : Int))) = false := by simpa using h1'
    by_cases h2 : b = z
    · subst h2
      simp only [true_or, or_true, if_true]
      clear O
      go_enter Try.func99, Try.ntmps99
      go_wp2_with fail
      go_ret2
      exact ⟨rfl, After.refl H.out⟩
    · have h2' : ¬ ((b : Int) = (z : Int)) := by omega
      have h2'' : (((b : Int) == (z : Int))) = false := by simpa using h2'
      by_cases h3 : oppN ns a b = true
      · simp only [h3, or_true, if_true]
        rw [h3] at O
        go_enter Try.func99, Try.ntmps99
        go_wp2_with (go_at_call 101; refine O.mono ?_; rintro e w' ⟨rfl, hbw⟩)
        go_ret2
        exact ⟨rfl, After.of_below H.out hbw⟩
      · have h3' : oppN ns a b = false := by simpa using h3
        rw [h3'] at O
        rw [if_neg (by simp [h1, h2, h3'])]
        by_cases h4 : a = u
        · subst h4
          simp only [true_or, if_true]
          go_enter Try.func99, Try.ntmps99
          go_wp2_with (go_at_call 101; refine O.mono ?_; rintro e w' ⟨rfl, hbw⟩)
          go_ret2
          exact ⟨rfl, After.of_below H.out hbw⟩
        · have h4' : ¬ ((a : Int) = (u : Int)) := by omega
          have h4'' : (((a : Int) == (u : Int))) = false := by simpa using h4'
          by_cases h5 : a = b
          · subst h5
            simp only [or_true, if_true]
            go_enter Try.func99, Try.ntmps99
            go_wp2_with (go_at_call 101; refine O.mono ?_; rintro e w' ⟨rfl, hbw⟩)
            go_ret2
            exact ⟨rfl, After.of_below H.out hbw⟩
          · have h5' : ¬ ((a : Int) = (b : Int)) := by omega
            have h5'' : (((a : Int) == (b : Int))) = false := by simpa using h5'
            rw [if_neg (by simp [h4, h5])]
            by_cases h6 : b = u
            · subst h6
              simp only [if_true]
              go_enter Try.func99, Try.ntmps99
              go_wp2_with (go_at_call 101; refine O.mono ?_; rintro e w' ⟨rfl, hbw⟩)
              go_ret2
              exact ⟨rfl, After.of_below H.out hbw⟩
            · have h6' : ¬ ((b : Int) = (u : Int)) := by omega
              have h6'' : (((b : Int) == (u : Int))) = false := by simpa using h6'
              rw [if_neg h6]
              by_cases h7 : a < b
              · have e1 : min a b = a := by omega
                have e2 : max a b = b := by omega
                have h7' : (a : Int) < (b : Int) := by omega
                rw [e1, e2] at HP
                rw [e1, e2]
                clear e1 e2
                go_enter Try.func99, Try.ntmps99
                go_wp2_with (first | (go_at_call 101; refine O.mono ?_; rintro e w' ⟨rfl, hbw⟩) | (go_at_call 97; refine (HP.out _ (H.out.below hbw)).mono ?_; rintro e w' ⟨rfl, haft⟩))
                go_ret2
                exact ⟨rfl, After.trans (Fr.of_below hbw) (fun b hb => .inl hb) haft⟩
              · have e1 : min a b = b := by omega
                have e2 : max a b = a := by omega
                have h7' : (b : Int) < (a : Int) := by omega
                rw [e1, e2] at HP
                rw [e1, e2]
                clear e1 e2
                go_enter Try.func99, Try.ntmps99
                go_wp2_with (first | (go_at_call 101; refine O.mono ?_; rintro e w' ⟨rfl, hbw⟩) | (go_at_call 97; refine (HP.out _ (H.out.below hbw)).mono ?_; rintro e w' ⟨rfl, haft⟩))
                go_ret2
                exact ⟨rfl, After.trans (Fr.of_below hbw) (fun b hb => .inl hb) haft⟩
end Go.Proofs.Ytbcabcdgblmnkaa
