/- How a slice of structs of three ints is opened. -/
import Derived.Test.YtdpnififbpoagaaOpen
import Derived.Test.YtdpnififbpoagaaNodeMem
import Derived.Deep.Strs
import Derived.Lib.SmallJoins
namespace Go.Proofs.Ytdpnififbpoagaa
open Go.ChangeShapes Go.WideShapes Go.ChangeAt Go.RowKit
set_option linter.unusedVariables false
set_option linter.unusedSimpArgs false

instance : Inhabited Nd := ⟨⟨0, 0, 0⟩⟩
def Nd.wf (o : Nd) : Prop := (Lit.int .i64 o.k).wf = true ∧ (Lit.int .i64 o.a).wf = true ∧ (Lit.int .i64 o.b).wf = true

theorem rd_ops {H : Type} {enc : TypeId × Value → H} {W : World} {a : Option Addr} {n c : Nat} {d : DataW H} {p : List MemPlace}
    (h : DataW.Trod enc Try.prog W 0 (fun _ => true) true 22 (.slice a n c) d p) :
    ∃ os : List Nd, os.length = n ∧ n ≤ c ∧ c ≤ maxLen ∧ Rd W 3 a n (ndCells os) ∧ (∀ o ∈ os, o.wf) ∧ ((a = none ∧ n = 0 ∧ c = 0) ∨ ∃ el sp, d = .slice el sp ∧ el.length + sp.length = c) := by
  obtain ⟨fuel, hf⟩ := h
  have hce : Try.prog.cellsOf 36 = 3 := by kernel_rfl
  have hci : Try.prog.cellsOf 3 = 1 := by kernel_rfl
  rcases Go.Deep.open_slice Try.underlying22 hf with ⟨hcs, _⟩ | ⟨a', n', c', m, f, D, Pl, hcs, _, hl, hm, hmm, hx, hcell⟩
  · simp [Value.cells] at hcs
    obtain ⟨rfl, rfl, rfl⟩ := hcs
    exact ⟨[], rfl, Nat.le_refl _, by unfold maxLen; omega, Rd.none_, by simp, .inl ⟨rfl, rfl, rfl⟩⟩
  · simp [Value.cells] at hcs
    obtain ⟨rfl, rfl, rfl⟩ := hcs
    simp only [if_true] at hmm
    subst hmm
    rw [hce] at hcell
    have hsp : 0 < m → a'.spot = none := by
      intro h0
      obtain ⟨cs', h1, _⟩ := hcell 0 h0
      obtain ⟨_, hlen, hget⟩ := World.cells?_some h1
      match cs', hlen with
      | [c0, c1, c2], _ =>
        have := World.cell?_spot ((hget 0 (by decide)).trans rfl)
        simpa [Addr.add] using this
    have hone : ∀ i, i < m → ∃ o : Nd, o.wf ∧ (a'.spot = none → ∀ j, j < 3 → W.cell? (a'.add (i * 3 + j)) = [Value.int .i64 o.k, .int .i64 o.a, .int .i64 o.b][j]?) ∧ a'.spot = none := by
      intro i hi
      have hsp := hsp (by omega)
      obtain ⟨cs', h1, h2⟩ := hcell i hi
      obtain ⟨_, hlen, hget⟩ := World.cells?_some h1
      obtain ⟨y0, y1, y2, k, _, _, t0, t1, t2⟩ := Go.Deep.trod_struct3 Try.underlying36 h2
      simp only [hci] at t0 t1 t2
      match cs', hlen with
      | [c0, c1, c2], _ =>
        obtain ⟨x0, e0, _, w0⟩ := DataW.trod_int Try.underlying3 t0
        obtain ⟨x1, e1, _, w1⟩ := DataW.trod_int Try.underlying3 t1
        obtain ⟨x2, e2, _, w2⟩ := DataW.trod_int Try.underlying3 t2
        simp at e0 e1 e2
        subst e0 e1 e2
        refine ⟨⟨x0, x1, x2⟩, ⟨w0, w1, w2⟩, fun _ j hj => ?_, hsp⟩
        have := hget j hj
        obtain ⟨b, off, spot⟩ := a'
        simp only at hsp
        subst hsp
        simp only [add_none] at this ⊢
        rw [← Nat.add_assoc]
        exact this
    obtain ⟨F, hF⟩ := Go.Deep.choose_lt (p := fun i (o : Nd) => o.wf ∧ (a'.spot = none → ∀ j, j < 3 → W.cell? (a'.add (i * 3 + j)) = [Value.int .i64 o.k, .int .i64 o.a, .int .i64 o.b][j]?) ∧ a'.spot = none) hone
    have hvl : ((List.range n).map F).length = n := by simp
    refine ⟨(List.range n).map F, hvl, hl, hm, ⟨by rw [ndCells_length, hvl], fun hn => ?_⟩, ?_, .inr ⟨_, _, (by simp only [Prod.mk.injEq] at hx; exact hx.1), by simp; omega⟩⟩
    · obtain ⟨b, off, spot⟩ := a'
      obtain rfl : spot = none := (hF 0 (by omega)).2.2
      refine ⟨b, off, rfl, fun j u hu => ?_⟩
      have hj : j < n * 3 := by
        have := (List.getElem?_eq_some_iff.1 hu).1
        rwa [ndCells_length, hvl] at this
      have hq : j / 3 < n := by omega
      have hmod : j % 3 < 3 := Nat.mod_lt _ (by decide)
      have hcell := (hF (j / 3) (by omega)).2.1 rfl (j % 3) hmod
      have ej : j / 3 * 3 + j % 3 = j := by omega
      rw [ej, add_none] at hcell
      rw [hcell, ← hu]
      obtain ⟨g0, g1, g2⟩ := ndCells_get ((List.range n).map F) (j / 3) (by rw [hvl]; exact hq)
      simp only [List.getElem_map, List.getElem_range] at g0 g1 g2
      have h3 : j % 3 = 0 ∨ j % 3 = 1 ∨ j % 3 = 2 := by omega
      rcases h3 with e | e | e
      · rw [e, show j = j / 3 * 3 by omega, show j / 3 * 3 / 3 = j / 3 by omega, g0]; rfl
      · rw [e, show j = j / 3 * 3 + 1 by omega, show (j / 3 * 3 + 1) / 3 = j / 3 by omega, g1]; rfl
      · rw [e, show j = j / 3 * 3 + 2 by omega, show (j / 3 * 3 + 2) / 3 = j / 3 by omega, g2]; rfl
    · intro o ho
      obtain ⟨i, hi, rfl⟩ := List.mem_map.1 ho
      exact (hF i (by have := List.mem_range.1 hi; omega)).1

set_option maxRecDepth 100000 in
/-- a struct of three ints, by value. -/
theorem open_op {H : Type} {enc : TypeId × Value → H} {W : World} {b0 : Nat} {v : Value} {d : DataW H} {p : List MemPlace} (hv : Value.okWide Try.prog W .any b0 36 v)
    (h : DataW.Trod enc Try.prog W 0 (fun _ => true) true 36 v d p) : ∃ o : Nd, v = .agg #[.int .i64 o.k, .int .i64 o.a, .int .i64 o.b] ∧ o.wf := by
  obtain ⟨v0, v1, v2, y0, y1, y2, k, rfl, _, _, t0, t1, t2⟩ := Joins.open_agg3 Try.underlying36 (by kernel_rfl) (by kernel_rfl) hv h
  obtain ⟨x0, e0, _, w0⟩ := DataW.trod_int Try.underlying3 t0
  obtain ⟨x1, e1, _, w1⟩ := DataW.trod_int Try.underlying3 t1
  obtain ⟨x2, e2, _, w2⟩ := DataW.trod_int Try.underlying3 t2
  simp only [List.cons.injEq, and_true] at e0 e1 e2
  subst e0 e1 e2
  exact ⟨⟨x0, x1, x2⟩, rfl, w0, w1, w2⟩
end Go.Proofs.Ytdpnififbpoagaa
