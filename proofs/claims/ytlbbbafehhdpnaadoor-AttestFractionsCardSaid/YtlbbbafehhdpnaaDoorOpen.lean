/- How the arguments of a law are opened: slices of integers and of bools, as lists. -/
import Derived.Test.YtlbbbafehhdpnaaDoorRows
import Derived.Test.YtlbbbafehhdpnaaDoorMem
import Derived.ProofKit
import Derived.SizedLaws
import Derived.OpenShut
import Derived.Deep.Slices
import Derived.Carry
import Derived.Test.YtlbbbafehhdpnaaDoorNumOps
import Derived.Deep.Strs
import Derived.Lib.SmallJoins
import Derived.Handed
import Derived.HandedShaped
import Derived.Shelf.Vars
namespace Go.Proofs.YtlbbbafehhdpnaaDoor
open Go.ChangeShapes Go.WideShapes Go.ChangeAt Go.RowKit

theorem own : ownKnob Tryd.prog.godebug = none := by kernel_rfl
theorem laidOut : laidOutB Tryd.prog = true := by kernel_rfl

theorem add_none (b o j : Nat) : (⟨b, o, none⟩ : Addr).add j = ⟨b, o + j, none⟩ := by
  unfold Addr.add
  split
  · subst_vars; rfl
  · rfl

section
variable {H : Type} {enc : TypeId × Value → H} {P : Program} {W : World}

/-- A slice whose elements are one cell each, as a list of values with what each reads as. -/
theorem rd_cells {t e : TypeId} {a : Option Addr} {n c : Nat} {d : DataW H} {p : List MemPlace} (ht : P.underlying t = some (.slice e)) (hc : P.cellsOf e = 1)
    (h : DataW.Trod enc P W 0 (fun _ => true) true t (.slice a n c) d p) :
    ∃ vs : List Value, vs.length = n ∧ n ≤ c ∧ c ≤ maxLen ∧ Rd W 1 a n vs ∧ (∀ v ∈ vs, ∃ m x q, DataW.trod enc P W 0 (fun _ => true) true m e [v] = some (x, q)) ∧
      ((a = none ∧ n = 0 ∧ c = 0) ∨ ∃ el sp, d = .slice el sp ∧ el.length + sp.length = c) := by
  obtain ⟨fuel, hf⟩ := h
  rcases Go.Deep.open_slice1 ht hc hf with ⟨hcs, _⟩ | ⟨a', n', c', m, f, V, D, Pl, hcs, _, hl, hm, hmm, hx, hcell⟩
  · simp [Value.cells] at hcs
    obtain ⟨rfl, rfl, rfl⟩ := hcs
    exact ⟨[], rfl, Nat.le_refl _, by unfold maxLen; omega, Rd.none_, by simp, .inl ⟨rfl, rfl, rfl⟩⟩
  · simp [Value.cells] at hcs
    obtain ⟨rfl, rfl, rfl⟩ := hcs
    simp only [if_true] at hmm
    subst hmm
    have hvl : ((List.range n).map V).length = n := by simp
    refine ⟨(List.range n).map V, hvl, hl, hm, ⟨by rw [hvl, Nat.mul_one], fun hn => ?_⟩, ?_, .inr ⟨_, _, (by simp only [Prod.mk.injEq] at hx; exact hx.1), by simp; omega⟩⟩
    · obtain ⟨b, off, spot⟩ := a'
      have hspot : spot = none := by simpa [Addr.add] using World.cell?_spot (hcell 0 (by omega)).1
      subst hspot
      refine ⟨b, off, rfl, fun j u hu => ?_⟩
      have hj : j < n := by
        have := (List.getElem?_eq_some_iff.1 hu).1
        simpa using this
      rw [List.getElem?_map, List.getElem?_range hj] at hu
      simp at hu
      subst hu
      have := (hcell j (by omega)).1
      rwa [add_none] at this
    · intro v hv
      obtain ⟨i, hi, rfl⟩ := List.mem_map.1 hv
      have hi' : i < n := by simpa using hi
      exact ⟨f, _, _, (hcell i (by omega)).2⟩

theorem list_of {α β : Type} (f : α → β) (l : List β) (h : ∀ v ∈ l, ∃ x, v = f x) : ∃ xs : List α, l = xs.map f := by
  induction l with
  | nil => exact ⟨[], rfl⟩
  | cons v l ih =>
    obtain ⟨x, rfl⟩ := h v (by simp)
    obtain ⟨xs, rfl⟩ := ih fun u hu => h u (by simp [hu])
    exact ⟨x :: xs, rfl⟩

theorem rd_ints {t e : TypeId} {k : IntKind} {a : Option Addr} {n c : Nat} {d : DataW H} {p : List MemPlace} (ht : P.underlying t = some (.slice e)) (he : P.underlying e = some (.int k)) (hc : P.cellsOf e = 1)
    (h : DataW.Trod enc P W 0 (fun _ => true) true t (.slice a n c) d p) :
    ∃ xs : List Int, xs.length = n ∧ n ≤ c ∧ c ≤ maxLen ∧ Rd W 1 a n (xs.map (Value.int k)) ∧ (∀ x ∈ xs, (Lit.int k x).wf = true) ∧
      ((a = none ∧ n = 0 ∧ c = 0) ∨ ∃ el sp, d = .slice el sp ∧ el.length + sp.length = c) := by
  obtain ⟨vs, h1, h2, h3, h4, h5, h6⟩ := rd_cells ht hc h
  have hx : ∀ v ∈ vs, ∃ x : { x : Int // (Lit.int k x).wf = true }, v = Value.int k x.1 := by
    intro v hv
    obtain ⟨m, x, q, hm⟩ := h5 v hv
    obtain ⟨y, hy, hy2, hy3⟩ := DataW.trod_int he hm
    simp at hy
    exact ⟨⟨y, hy3⟩, hy⟩
  obtain ⟨xs, rfl⟩ := list_of (fun x : { x : Int // (Lit.int k x).wf = true } => Value.int k x.1) vs hx
  refine ⟨xs.map (·.1), by simpa using h1, h2, h3, by rw [List.map_map]; exact h4, ?_, h6⟩
  intro x hx'
  obtain ⟨y, _, rfl⟩ := List.mem_map.1 hx'
  exact y.2

theorem rd_bools {t e : TypeId} {a : Option Addr} {n c : Nat} {d : DataW H} {p : List MemPlace} (ht : P.underlying t = some (.slice e)) (he : P.underlying e = some .bool) (hc : P.cellsOf e = 1)
    (h : DataW.Trod enc P W 0 (fun _ => true) true t (.slice a n c) d p) :
    ∃ xs : List Bool, xs.length = n ∧ n ≤ c ∧ c ≤ maxLen ∧ Rd W 1 a n (xs.map Value.bool) ∧
      ((a = none ∧ n = 0 ∧ c = 0) ∨ ∃ el sp, d = .slice el sp ∧ el.length + sp.length = c) := by
  obtain ⟨vs, h1, h2, h3, h4, h5, h6⟩ := rd_cells ht hc h
  have hx : ∀ v ∈ vs, ∃ x : Bool, v = Value.bool x := by
    intro v hv
    obtain ⟨m, x, q, hm⟩ := h5 v hv
    obtain ⟨y, hy, _⟩ := DataW.trod_bool he hm
    simp at hy
    exact ⟨y, hy⟩
  obtain ⟨xs, rfl⟩ := list_of Value.bool vs hx
  exact ⟨xs, by simpa using h1, h2, h3, h4, h6⟩
end

section
variable {x : Int}
theorem b_i64 (h : (Lit.int .i64 x).wf = true) : -9223372036854775808 ≤ x ∧ x ≤ 9223372036854775807 := by simpa [Lit.wf, IntKind.min, IntKind.max, IntKind.signed, IntKind.bits] using h
theorem b_u64 (h : (Lit.int .u64 x).wf = true) : 0 ≤ x ∧ x ≤ 18446744073709551615 := by simpa [Lit.wf, IntKind.min, IntKind.max, IntKind.signed, IntKind.bits] using h
theorem b_u32 (h : (Lit.int .u32 x).wf = true) : 0 ≤ x ∧ x ≤ 4294967295 := by simpa [Lit.wf, IntKind.min, IntKind.max, IntKind.signed, IntKind.bits] using h
theorem b_u8 (h : (Lit.int .u8 x).wf = true) : 0 ≤ x ∧ x ≤ 255 := by simpa [Lit.wf, IntKind.min, IntKind.max, IntKind.signed, IntKind.bits] using h
end
end Go.Proofs.YtlbbbafehhdpnaaDoor

namespace Go.Proofs.YtlbbbafehhdpnaaDoor
open Go.ChangeShapes Go.WideShapes Go.ChangeAt Go.RowKit
set_option linter.unusedVariables false
set_option linter.unusedSimpArgs false

theorem num_of {w : World} {A : Option Addr} {n c : Nat} {xs : List Int} (hl : xs.length = n) (hnc : n ≤ c) (hrd : Rd w 1 A n (xs.map (Value.int .u32))) (hwf : ∀ x ∈ xs, (Lit.int .u32 x).wf = true) : ∃ us : List Nat, Num w A n c us := by
  have : ∃ us : List Nat, xs = us.map (fun (u : Nat) => (u : Int)) ∧ small us := by
    clear hl hrd
    induction xs with
    | nil => exact ⟨[], rfl, small_nil⟩
    | cons x xs ih =>
      obtain ⟨us, e, hs⟩ := ih fun y hy => hwf y (by simp [hy])
      obtain ⟨hx1, hx2⟩ := b_u32 (hwf x (by simp))
      refine ⟨x.toNat :: us, ?_, small_cons.2 ⟨?_, hs⟩⟩
      · rw [List.map_cons, ← e]
        congr 1
        omega
      · omega
  obtain ⟨us, rfl, hs⟩ := this
  have hl' : us.length = n := by simpa using hl
  refine ⟨us, ?_, hl', hnc, hs⟩
  rw [List.map_map] at hrd
  exact hrd
theorem num_trod {H : Type} {enc : TypeId × Value → H} {W : World} {v : Value} {k : Nat} {y : DataW H × List MemPlace} (t : DataW.trod enc Tryd.prog W 0 (fun _ => true) true k 22 [v] = some y) : ∃ (A : Option Addr) (n c : Nat) (us : List Nat), v = .slice A n c ∧ Num W A n c us := by
  have key : ∀ A n c, v = .slice A n c → ∃ us, Num W A n c us := by
    intro A n c e
    subst e
    obtain ⟨xs, hl, hnc, _, hrd, hwf, _⟩ := rd_ints (d := y.1) (p := y.2) Tryd.underlying22 Tryd.underlying25 (by kernel_rfl) ⟨k, t⟩
    exact num_of hl hnc hrd hwf
  rcases DataW.trod_slice Tryd.underlying22 t with ⟨hcs, _⟩ | ⟨a', n, c, elems, rest, m, hfu, hcs, _⟩
  · simp at hcs
    obtain ⟨us, hn⟩ := key _ _ _ hcs
    exact ⟨_, _, _, us, hcs, hn⟩
  · simp at hcs
    obtain ⟨us, hn⟩ := key _ _ _ hcs
    exact ⟨_, _, _, us, hcs, hn⟩
set_option maxRecDepth 100000 in
theorem open_num5 {H : Type} {enc : TypeId × Value → H} {W : World} {b0 : Nat} {v : Value} {d : DataW H} {p : List MemPlace} (hv : Value.okWide Tryd.prog W .any b0 48 v)
    (h : DataW.Trod enc Tryd.prog W 0 (fun _ => true) true 48 v d p) : ∃ (s : Bool) (A : Option Addr) (n c : Nat) (us : List Nat) (A2 : Option Addr) (n2 c2 : Nat) (us2 : List Nat), v = .agg #[.bool s, .slice A n c, .slice A2 n2 c2] ∧ Num W A n c us ∧ Num W A2 n2 c2 us2 := by
  obtain ⟨v0, v1, v2, y0, y1, y2, k, rfl, _, _, t0, t1, t2⟩ := Joins.open_agg3 Tryd.underlying48 (by kernel_rfl) (by kernel_rfl) hv h
  obtain ⟨x0, e0, _⟩ := DataW.trod_bool Tryd.underlying4 t0
  simp at e0
  subst e0
  obtain ⟨A, n, c, us, rfl, h1⟩ := num_trod t1
  obtain ⟨A2, n2, c2, us2, rfl, h2⟩ := num_trod t2
  exact ⟨_, _, _, _, us, _, _, _, us2, rfl, h1, h2⟩

/-- 'returnsInHanded_of_change_and', the world's shape handed on. -/
theorem returns_shaped_and {H : Type} {enc : TypeId × Value → H} {a : Assume} {C : Checked} {os : Os} {f : FuncId} {fn : Func} {s : ChangeSpec} {conds : List PathCond} {apart fresh handsOn again : Bool} {X : World → Array Value → Prop}
    (hX : ∀ (w w' : World) (args : Array Value), w.heap = w'.heap → X w args → X w' args)
    (own : ownKnob C.prog.godebug = none) (started : os.Started) (noInit : C.prog.inits.idxOf? f = none) (hfn : C.prog.funcs[f]? = some fn)
    (witness : ∃ (w : World) (tape : Tape) (i : Input), w.os = os ∧ (w.forCall tape i).Shaped C.prog ∧ i.vars = [] ∧ Input.okWide C.prog (w.forCall tape i) .any w.heap.size f i ∧
      ((s.pre enc C.prog fn conds apart (w.forCall tape i).memory i.args ∧ X (w.forCall tape i).memory i.args) ∧ sizedMet enc C.prog fn (OpenSpec.ofChange s) apart (w.forCall tape i).memory i.args) ∧ a.holds C.prog (lone (Frame.enter C.prog f i.args .normal) [] (w.forCall tape i)))
    (contract : ∀ (W : World) (base : Nat) (args : Array Value) (ds gs : List (DataW H)) (before : List MemPlace),
      (∀ (j : Nat) t v, fn.params[j]? = some t → args[j]? = some v → Value.okWide C.prog W .any base t v) →
      DataW.Whole enc C.prog fn.params.toList s.vars apart W args.toList ds gs before →
      conds.all (PathCond.test C.prog ⟨fn.params.toList, ds, s.plain.varTypes C.prog, gs⟩) = true →
      (DataW.weightsEach C.prog (fn.params.toList ++ s.plain.varTypes C.prog) (ds ++ gs)).all (· ≤ reachBytes) = true → X W args → W.ShapedOpen C.prog →
      Calls C.prog f args W fun e W' => ∃ v, e = .returned v ∧ s.post enc C.prog fn apart fresh handsOn again W args v W') :
    ReturnsInHanded a C os f .any (fun w args => (s.pre enc C.prog fn conds apart w args ∧ X w args) ∧ sizedMet enc C.prog fn (OpenSpec.ofChange s) apart w args) (s.post enc C.prog fn apart fresh handsOn again) := by
  refine returnsInHanded_of_calls own started noInit witness ?_
  intro w tape i _ hshape _ hinput hmet _
  obtain ⟨_, _, _, fn2, hfn2, _, _, _, _, hvals⟩ := hinput
  obtain rfl : fn2 = fn := Option.some.inj (hfn2.symm.trans hfn)
  obtain ⟨⟨⟨ds, gs, before, hwhole, hcond⟩, hxx⟩, hsizes⟩ := hmet
  refine (contract (w.forCall tape i) w.heap.size i.args ds gs before hvals (DataW.Whole.of_heap (w' := w.forCall tape i) (by rfl) hwhole) hcond (hsizes.weights hwhole) (hX _ _ _ (by rfl) hxx) hshape).mono ?_
  rintro e W' ⟨v, rfl, hpost⟩
  exact ChangeSpec.post_blind hpost
theorem maxLen_cell {W : World} (h : W.ShapedOpen Tryd.prog) : ∃ m, W.cell? ⟨0, 0, none⟩ = some (.int .i64 m) :=
  cell_of_shapedOpen_int (g := 0) (t := 3) (zero := #[.int .i64 0]) h (of_decide_eq_true (by kernel_rfl)) (by kernel_rfl) rfl (by kernel_rfl) (by kernel_rfl) Tryd.underlying3
end Go.Proofs.YtlbbbafehhdpnaaDoor
