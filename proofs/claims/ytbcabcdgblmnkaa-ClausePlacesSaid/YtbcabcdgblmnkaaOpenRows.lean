/- How a slice of slices of integers is opened. -/
import Derived.Test.YtbcabcdgblmnkaaOpen
import Derived.Test.YtbcabcdgblmnkaaClChain
namespace Go.Proofs.Ytbcabcdgblmnkaa
open Go.ChangeShapes Go.WideShapes Go.ChangeAt Go.RowKit
set_option linter.unusedVariables false
set_option linter.unusedSimpArgs false

theorem rd_rows {H : Type} {enc : TypeId × Value → H} {W : World} {a : Option Addr} {n c : Nat} {d : DataW H} {p : List MemPlace}
    (h : DataW.Trod enc Try.prog W 0 (fun _ => true) true 39 (.slice a n c) d p) :
    ∃ (xss : List (List Int)) (vs : List Value), xss.length = n ∧ n ≤ c ∧ c ≤ maxLen ∧ Rd W 1 a n vs ∧ MatI W vs xss ∧ (∀ xs ∈ xss, ∀ l ∈ xs, IsI64 l) := by
  obtain ⟨vs, h1, h2, h3, h4, h5, _⟩ := rd_cells Try.underlying39 (by kernel_rfl) h
  have hx : ∀ v ∈ vs, ∃ x : { xs : List Int // Sl W v xs ∧ ∀ l ∈ xs, IsI64 l }, True := by
    intro v hv
    obtain ⟨m, x, q, hm⟩ := h5 v hv
    have hs : ∃ a n c, v = .slice a n c := by
      rcases DataW.trod_slice Try.underlying22 hm with ⟨e, _⟩ | ⟨a', n, c, _, _, _, _, e, _⟩
      · exact ⟨none, 0, 0, by simpa using e⟩
      · exact ⟨some a', n, c, by simpa using e⟩
    obtain ⟨a', n', c', rfl⟩ := hs
    obtain ⟨xs, hl, hnc, hcm, hrd, hwf, _⟩ := rd_ints Try.underlying22 Try.underlying3 (by kernel_rfl) (d := x) (p := q) ⟨m, hm⟩
    subst hl
    exact ⟨⟨xs, ⟨_, _, rfl, hnc, hcm, hrd⟩, fun l hl => b_i64 (hwf l hl)⟩, trivial⟩
  have key : ∀ us : List Value, (∀ v ∈ us, ∃ x : { xs : List Int // Sl W v xs ∧ ∀ l ∈ xs, IsI64 l }, True) → ∃ xss : List (List Int), MatI W us xss ∧ ∀ xs ∈ xss, ∀ l ∈ xs, IsI64 l := by
    intro us
    induction us with
    | nil => intro _; exact ⟨[], ⟨rfl, fun i v xs hv => by simp at hv⟩, fun xs hxs => by simp at hxs⟩
    | cons v us ih =>
      intro h
      obtain ⟨x, _⟩ := h v (by simp)
      obtain ⟨xss, hm, hi⟩ := ih fun u hu => h u (by simp [hu])
      refine ⟨x.1 :: xss, ⟨by simp [hm.1], fun i u xs hu hxs => ?_⟩, fun xs hxs => ?_⟩
      · cases i with
        | zero =>
          simp at hu hxs
          subst hu hxs
          exact x.2.1
        | succ i => exact hm.2 i u xs (by simpa using hu) (by simpa using hxs)
      · rcases List.mem_cons.1 hxs with e | e
        · subst e; exact x.2.2
        · exact hi xs e
  obtain ⟨xss, hm, hi⟩ := key vs hx
  exact ⟨xss, vs, by rw [← hm.1, h1], h2, h3, h4, hm, hi⟩
end Go.Proofs.Ytbcabcdgblmnkaa
