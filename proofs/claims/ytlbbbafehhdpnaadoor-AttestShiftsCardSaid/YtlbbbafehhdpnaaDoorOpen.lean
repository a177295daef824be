/- How the arguments of a law are opened: slices of integers and of bools, as lists. -/
import Derived.Test.YtlbbbafehhdpnaaDoorRows
import Derived.Test.YtlbbbafehhdpnaaDoorMem
import Derived.ProofKit
import Derived.SizedLaws
import Derived.OpenShut
import Derived.Deep.Slices
import Derived.Carry
namespace Go.Proofs.YtlbbbafehhdpnaaDoor
open Go.ChangeShapes Go.WideShapes Go.ChangeAt Go.RowKit

theorem own : ownKnob Tryd.prog.godebug = none := by kernel_rfl
theorem laidOut : laidOutB Tryd.prog = true := by kernel_rfl

theorem add_none (b o j : Nat) : (⟨b, o, none⟩ : Addr).add j = ⟨b, o + j, none⟩ := by
  unfold Addr.add
  split
  · subst_vars; rfl
  · rfl

section
variable {H : Type} {enc : TypeId × Value → H} {P : Program} {W : World}

/-- A slice whose elements are one cell each, as a list of values with what each reads as. -/
theorem rd_cells {t e : TypeId} {a : Option Addr} {n c : Nat} {d : DataW H} {p : List MemPlace} (ht : P.underlying t = some (.slice e)) (hc : P.cellsOf e = 1)
    (h : DataW.Trod enc P W 0 (fun _ => true) true t (.slice a n c) d p) :
    ∃ vs : List Value, vs.length = n ∧ n ≤ c ∧ c ≤ maxLen ∧ Rd W 1 a n vs ∧ (∀ v ∈ vs, ∃ m x q, DataW.trod enc P W 0 (fun _ => true) true m e [v] = some (x, q)) ∧
      ((a = none ∧ n = 0 ∧ c = 0) ∨ ∃ el sp, d = .slice el sp ∧ el.length + sp.length = c) := by
  obtain ⟨fuel, hf⟩ := h
  rcases Go.Deep.open_slice1 ht hc hf with ⟨hcs, _⟩ | ⟨a', n', c', m, f, V, D, Pl, hcs, _, hl, hm, hmm, hx, hcell⟩
  · simp [Value.cells] at hcs
    obtain ⟨rfl, rfl, rfl⟩ := hcs
    exact ⟨[], rfl, Nat.le_refl _, by unfold maxLen; omega, Rd.none_, by simp, .inl ⟨rfl, rfl, rfl⟩⟩
  · simp [Value.cells] at hcs
    obtain ⟨rfl, rfl, rfl⟩ := hcs
    simp only [if_true] at hmm
    subst hmm
    have hvl : ((List.range n).map V).length = n := by simp
    refine ⟨(List.range n).map V, hvl, hl, hm, ⟨by rw [hvl, Nat.mul_one], fun hn => ?_⟩, ?_, .inr ⟨_, _, (by simp only [Prod.mk.injEq] at hx; exact hx.1), by simp; omega⟩⟩
    · obtain ⟨b, off, spot⟩ := a'
      have hspot : spot = none := by simpa [Addr.add] using World.cell?_spot (hcell 0 (by omega)).1
      subst hspot
      refine ⟨b, off, rfl, fun j u hu => ?_⟩
      have hj : j < n := by
        have := (List.getElem?_eq_some_iff.1 hu).1
        simpa using this
      rw [List.getElem?_map, List.getElem?_range hj] at hu
      simp at hu
      subst hu
      have := (hcell j (by omega)).1
      rwa [add_none] at this
    · intro v hv
      obtain ⟨i, hi, rfl⟩ := List.mem_map.1 hv
      have hi' : i < n := by simpa using hi
      exact ⟨f, _, _, (hcell i (by omega)).2⟩

theorem list_of {α β : Type} (f : α → β) (l : List β) (h : ∀ v ∈ l, ∃ x, v = f x) : ∃ xs : List α, l = xs.map f := by
  induction l with
  | nil => exact ⟨[], rfl⟩
  | cons v l ih =>
    obtain ⟨x, rfl⟩ := h v (by simp)
    obtain ⟨xs, rfl⟩ := ih fun u hu => h u (by simp [hu])
    exact ⟨x :: xs, rfl⟩

theorem rd_ints {t e : TypeId} {k : IntKind} {a : Option Addr} {n c : Nat} {d : DataW H} {p : List MemPlace} (ht : P.underlying t = some (.slice e)) (he : P.underlying e = some (.int k)) (hc : P.cellsOf e = 1)
    (h : DataW.Trod enc P W 0 (fun _ => true) true t (.slice a n c) d p) :
    ∃ xs : List Int, xs.length = n ∧ n ≤ c ∧ c ≤ maxLen ∧ Rd W 1 a n (xs.map (Value.int k)) ∧ (∀ x ∈ xs, (Lit.int k x).wf = true) ∧
      ((a = none ∧ n = 0 ∧ c = 0) ∨ ∃ el sp, d = .slice el sp ∧ el.length + sp.length = c) := by
  obtain ⟨vs, h1, h2, h3, h4, h5, h6⟩ := rd_cells ht hc h
  have hx : ∀ v ∈ vs, ∃ x : { x : Int // (Lit.int k x).wf = true }, v = Value.int k x.1 := by
    intro v hv
    obtain ⟨m, x, q, hm⟩ := h5 v hv
    obtain ⟨y, hy, hy2, hy3⟩ := DataW.trod_int he hm
    simp at hy
    exact ⟨⟨y, hy3⟩, hy⟩
  obtain ⟨xs, rfl⟩ := list_of (fun x : { x : Int // (Lit.int k x).wf = true } => Value.int k x.1) vs hx
  refine ⟨xs.map (·.1), by simpa using h1, h2, h3, by rw [List.map_map]; exact h4, ?_, h6⟩
  intro x hx'
  obtain ⟨y, _, rfl⟩ := List.mem_map.1 hx'
  exact y.2

theorem rd_bools {t e : TypeId} {a : Option Addr} {n c : Nat} {d : DataW H} {p : List MemPlace} (ht : P.underlying t = some (.slice e)) (he : P.underlying e = some .bool) (hc : P.cellsOf e = 1)
    (h : DataW.Trod enc P W 0 (fun _ => true) true t (.slice a n c) d p) :
    ∃ xs : List Bool, xs.length = n ∧ n ≤ c ∧ c ≤ maxLen ∧ Rd W 1 a n (xs.map Value.bool) ∧
      ((a = none ∧ n = 0 ∧ c = 0) ∨ ∃ el sp, d = .slice el sp ∧ el.length + sp.length = c) := by
  obtain ⟨vs, h1, h2, h3, h4, h5, h6⟩ := rd_cells ht hc h
  have hx : ∀ v ∈ vs, ∃ x : Bool, v = Value.bool x := by
    intro v hv
    obtain ⟨m, x, q, hm⟩ := h5 v hv
    obtain ⟨y, hy, _⟩ := DataW.trod_bool he hm
    simp at hy
    exact ⟨y, hy⟩
  obtain ⟨xs, rfl⟩ := list_of Value.bool vs hx
  exact ⟨xs, by simpa using h1, h2, h3, h4, h6⟩
end

section
variable {x : Int}
theorem b_i64 (h : (Lit.int .i64 x).wf = true) : -9223372036854775808 ≤ x ∧ x ≤ 9223372036854775807 := by simpa [Lit.wf, IntKind.min, IntKind.max, IntKind.signed, IntKind.bits] using h
theorem b_u64 (h : (Lit.int .u64 x).wf = true) : 0 ≤ x ∧ x ≤ 18446744073709551615 := by simpa [Lit.wf, IntKind.min, IntKind.max, IntKind.signed, IntKind.bits] using h
theorem b_u32 (h : (Lit.int .u32 x).wf = true) : 0 ≤ x ∧ x ≤ 4294967295 := by simpa [Lit.wf, IntKind.min, IntKind.max, IntKind.signed, IntKind.bits] using h
theorem b_u8 (h : (Lit.int .u8 x).wf = true) : 0 ≤ x ∧ x ≤ 255 := by simpa [Lit.wf, IntKind.min, IntKind.max, IntKind.signed, IntKind.bits] using h
end
end Go.Proofs.YtlbbbafehhdpnaaDoor
