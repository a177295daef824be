/- How a formula by value is opened. -/
import Derived.Test.YtbcabcdgblmnkaaOpen
import Derived.Test.YtbcabcdgblmnkaaFmRef
import Derived.Deep.Strs
import Derived.Lib.SmallJoins
namespace Go.Proofs.Ytbcabcdgblmnkaa
open Go.ChangeShapes Go.WideShapes Go.ChangeAt Go.RowKit
set_option linter.unusedVariables false
set_option linter.unusedSimpArgs false

theorem struct3_fuel {H : Type} {enc : TypeId × Value → H} {P : Program} {w : World} {base : Nat} {spare : Nat → Bool} {held : Bool} {t : TypeId} {f0 f1 f2 : Field} {fuel : Nat} {cs : List Value} {x : DataW H × List MemPlace} (ht : P.underlying t = some (.struct #[f0, f1, f2])) (h : DataW.trod enc P w base spare held fuel t cs = some x) :
    ∃ y0 y1 y2 n, fuel = n + 1 ∧ DataW.trod enc P w base spare held n f0.type ((cs.drop f0.offset).take (P.cellsOf f0.type)) = some y0 ∧
      DataW.trod enc P w base spare held n f1.type ((cs.drop f1.offset).take (P.cellsOf f1.type)) = some y1 ∧ DataW.trod enc P w base spare held n f2.type ((cs.drop f2.offset).take (P.cellsOf f2.type)) = some y2 := by
  obtain ⟨xs, n, e, rfl, hl, hlen, hf⟩ := DataW.trod_struct ht h
  match xs, hlen with
  | [y0, y1, y2], _ => exact ⟨y0, y1, y2, n, e, by simpa using hf 0 f0 rfl, by simpa using hf 1 f1 rfl, by simpa using hf 2 f2 rfl⟩
set_option maxRecDepth 100000 in
theorem rd_fm {H : Type} {enc : TypeId × Value → H} {W : World} : ∀ (fuel : Nat) (cs : List Value) (x : DataW H × List MemPlace),
    DataW.trod enc Try.prog W 0 (fun _ => true) true fuel 56 cs = some x → ∃ (fs : List Fm) (v : Value), cs = [v] ∧ FIn W fs v := by
  intro fuel
  have hce : Try.prog.cellsOf 58 = 3 := by kernel_rfl
  have hci : Try.prog.cellsOf 3 = 1 := by kernel_rfl
  have hcs : Try.prog.cellsOf 56 = 1 := by kernel_rfl
  induction fuel using Nat.strongRecOn with
  | ind fuel ih =>
    intro cs x h
    rcases DataW.trod_slice Try.underlying56 h with ⟨rfl, _⟩ | ⟨a', n, c, elems, rest, m, hfu, rfl, hx, _, hl, hm, hlen, hel, _, _⟩
    · exact ⟨[], _, rfl, (FOn.nil (fun _ => True) W).fin⟩
    · rw [hce] at hel
      have hone : ∀ i, i < n → ∃ o : Fm × Value, FIn W o.1.sub o.2 ∧ (∀ j, j < 3 → W.cell? ((a'.add (i * 3)).add j) = [Value.int .i64 o.1.k, .int .i64 o.1.a, o.2][j]?) := by
        intro i hi
        have h0 := hel i hi
        rw [List.getElem?_eq_getElem (by omega), Option.bind_eq_some_iff] at h0
        obtain ⟨cs', h1, h2⟩ := h0
        obtain ⟨_, hlen', hget⟩ := World.cells?_some h1
        obtain ⟨y0, y1, y2, n', hn', t0, t1, t2⟩ := struct3_fuel Try.underlying58 h2
        simp only [hci, hcs] at t0 t1 t2
        match cs', hlen' with
        | [c0, c1, c2], _ =>
          obtain ⟨x0, e0, _, w0⟩ := DataW.trod_int Try.underlying3 t0
          obtain ⟨x1, e1, _, w1⟩ := DataW.trod_int Try.underlying3 t1
          obtain ⟨fs', v', e2, hfi⟩ := ih n' (by omega) _ _ t2
          simp at e0 e1 e2
          subst e0 e1 e2
          refine ⟨(.mk x0 x1 fs', c2), hfi, fun j hj => hget j hj⟩
      haveI : Inhabited (Fm × Value) := ⟨(default, .int .i64 0)⟩
      obtain ⟨F, hF⟩ := Go.Deep.choose_lt (p := fun i (o : Fm × Value) => FIn W o.1.sub o.2 ∧ (∀ j, j < 3 → W.cell? ((a'.add (i * 3)).add j) = [Value.int .i64 o.1.k, .int .i64 o.1.a, o.2][j]?)) hone
      have hfl : ((List.range n).map fun i => (F i).1).length = n := by simp
      have hsl : ((List.range n).map fun i => (F i).2).length = n := by simp
      refine ⟨(List.range n).map fun i => (F i).1, _, rfl, .mk (some a') n c _ ((List.range n).map fun i => (F i).2) hfl hsl hl hm ⟨by rw [fCells_length _ _ (by simp), hfl], fun hn => ?_⟩ (fun i f s hf hs => ?_)⟩
      · have hsp : a'.spot = none := by
          have := World.cell?_spot (((hF 0 hn).2 0 (by decide)).trans rfl)
          simpa [Addr.add] using this
        obtain ⟨b, off, spot⟩ := a'
        simp only at hsp
        subst hsp
        refine ⟨b, off, rfl, fun j u hu => ?_⟩
        have hj : j < n * 3 := by
          have := (List.getElem?_eq_some_iff.1 hu).1
          rwa [fCells_length _ _ (by simp), hfl] at this
        have hq : j / 3 < n := by omega
        have hcell := (hF (j / 3) (by omega)).2 (j % 3) (Nat.mod_lt _ (by decide))
        have ej : j / 3 * 3 + j % 3 = j := by omega
        rw [add_none, add_none, Nat.add_assoc, ej] at hcell
        rw [hcell, ← hu]
        obtain ⟨g0, g1, g2⟩ := fCells_get ((List.range n).map fun i => (F i).1) ((List.range n).map fun i => (F i).2) (j / 3) (F (j / 3)).1 (F (j / 3)).2 (by simp [hq]) (by simp [hq])
        have h3 : j % 3 = 0 ∨ j % 3 = 1 ∨ j % 3 = 2 := by omega
        rcases h3 with e | e | e
        · rw [e, show j = j / 3 * 3 by omega, show j / 3 * 3 / 3 = j / 3 by omega, g0]; rfl
        · rw [e, show j = j / 3 * 3 + 1 by omega, show (j / 3 * 3 + 1) / 3 = j / 3 by omega, g1]; rfl
        · rw [e, show j = j / 3 * 3 + 2 by omega, show (j / 3 * 3 + 2) / 3 = j / 3 by omega, g2]; rfl
      · have hi : i < n := by
          have := (List.getElem?_eq_some_iff.1 hf).1
          simpa using this
        simp [hi] at hf hs
        subst hf hs
        exact (hF i hi).1

set_option maxRecDepth 100000 in
/-- a formula, by value. -/
theorem open_fm {H : Type} {enc : TypeId × Value → H} {W : World} {b0 : Nat} {v : Value} {d : DataW H} {p : List MemPlace} (hv : Value.okWide Try.prog W .any b0 58 v)
    (h : DataW.Trod enc Try.prog W 0 (fun _ => true) true 58 v d p) : ∃ (k a : Int) (fs : List Fm) (sv : Value), v = .agg #[.int .i64 k, .int .i64 a, sv] ∧ FIn W fs sv ∧ (Lit.int .i64 k).wf = true ∧ (Lit.int .i64 a).wf = true := by
  obtain ⟨v0, v1, v2, y0, y1, y2, k, rfl, _, _, t0, t1, t2⟩ := Joins.open_agg3 Try.underlying58 (by kernel_rfl) (by kernel_rfl) hv h
  obtain ⟨x0, e0, _, w0⟩ := DataW.trod_int Try.underlying3 t0
  obtain ⟨x1, e1, _, w1⟩ := DataW.trod_int Try.underlying3 t1
  obtain ⟨fs, sv, e2, hf⟩ := rd_fm _ _ _ t2
  simp only [List.cons.injEq, and_true] at e0 e1 e2
  subst e0 e1 e2
  exact ⟨x0, x1, fs, v2, rfl, hf, w0, w1⟩
end Go.Proofs.Ytbcabcdgblmnkaa
