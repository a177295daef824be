/- How the arguments of a law are opened: slices of integers and of bools, as lists. -/
import Derived.Test.YtlbbbafehhdpnaaGreatDoorRows
import Derived.Test.YtlbbbafehhdpnaaGreatDoorMem
import Derived.ProofKit
import Derived.SizedLaws
import Derived.OpenShut
import Derived.Deep.Slices
import Derived.Carry
import Derived.Test.YtlbbbafehhdpnaaGreatDoorNumOps
import Derived.Deep.Strs
import Derived.Lib.SmallJoins
import Derived.Handed
import Derived.HandedShaped
import Derived.Shelf.Vars
import Derived.Test.YtlbbbafehhdpnaaGreatDoorLawAt
import Derived.Test.YtlbbbafehhdpnaaGreatDoorAcTop
import Derived.Lib.LaidU8
import Derived.MakeChecks
namespace Go.Proofs.YtlbbbafehhdpnaaGreatDoor
set_option linter.unusedVariables false
set_option linter.unusedSimpArgs false
open Go.ChangeShapes Go.WideShapes Go.ChangeAt Go.RowKit

theorem own : ownKnob Tryz.prog.godebug = none := by kernel_rfl
theorem laidOut : laidOutB Tryz.prog = true := by kernel_rfl

theorem add_none (b o j : Nat) : (⟨b, o, none⟩ : Addr).add j = ⟨b, o + j, none⟩ := by
  unfold Addr.add
  split
  · subst_vars; rfl
  · rfl

section
variable {H : Type} {enc : TypeId × Value → H} {P : Program} {W : World}

/-- A slice whose elements are one cell each, as a list of values with what each reads as. -/
theorem rd_cells {t e : TypeId} {a : Option Addr} {n c : Nat} {d : DataW H} {p : List MemPlace} (ht : P.underlying t = some (.slice e)) (hc : P.cellsOf e = 1)
    (h : DataW.Trod enc P W 0 (fun _ => true) true t (.slice a n c) d p) :
    ∃ vs : List Value, vs.length = n ∧ n ≤ c ∧ c ≤ maxLen ∧ Rd W 1 a n vs ∧ (∀ v ∈ vs, ∃ m x q, DataW.trod enc P W 0 (fun _ => true) true m e [v] = some (x, q)) ∧
      ((a = none ∧ n = 0 ∧ c = 0) ∨ ∃ el sp, d = .slice el sp ∧ el.length + sp.length = c) := by
  obtain ⟨fuel, hf⟩ := h
  rcases Go.Deep.open_slice1 ht hc hf with ⟨hcs, _⟩ | ⟨a', n', c', m, f, V, D, Pl, hcs, _, hl, hm, hmm, hx, hcell⟩
  · simp [Value.cells] at hcs
    obtain ⟨rfl, rfl, rfl⟩ := hcs
    exact ⟨[], rfl, Nat.le_refl _, by unfold maxLen; omega, Rd.none_, by simp, .inl ⟨rfl, rfl, rfl⟩⟩
  · simp [Value.cells] at hcs
    obtain ⟨rfl, rfl, rfl⟩ := hcs
    simp only [if_true] at hmm
    subst hmm
    have hvl : ((List.range n).map V).length = n := by simp
    refine ⟨(List.range n).map V, hvl, hl, hm, ⟨by rw [hvl, Nat.mul_one], fun hn => ?_⟩, ?_, .inr ⟨_, _, (by simp only [Prod.mk.injEq] at hx; exact hx.1), by simp; omega⟩⟩
    · obtain ⟨b, off, spot⟩ := a'
      have hspot : spot = none := by simpa [Addr.add] using World.cell?_spot (hcell 0 (by omega)).1
      subst hspot
      refine ⟨b, off, rfl, fun j u hu => ?_⟩
      have hj : j < n := by
        have := (List.getElem?_eq_some_iff.1 hu).1
        simpa using this
      rw [List.getElem?_map, List.getElem?_range hj] at hu
      simp at hu
      subst hu
      have := (hcell j (by omega)).1
      rwa [add_none] at this
    · intro v hv
      obtain ⟨i, hi, rfl⟩ := List.mem_map.1 hv
      have hi' : i < n := by simpa using hi
      exact ⟨f, _, _, (hcell i (by omega)).2⟩

theorem list_of {α β : Type} (f : α → β) (l : List β) (h : ∀ v ∈ l, ∃ x, v = f x) : ∃ xs : List α, l = xs.map f := by
  induction l with
  | nil => exact ⟨[], rfl⟩
  | cons v l ih =>
    obtain ⟨x, rfl⟩ := h v (by simp)
    obtain ⟨xs, rfl⟩ := ih fun u hu => h u (by simp [hu])
    exact ⟨x :: xs, rfl⟩

theorem rd_ints {t e : TypeId} {k : IntKind} {a : Option Addr} {n c : Nat} {d : DataW H} {p : List MemPlace} (ht : P.underlying t = some (.slice e)) (he : P.underlying e = some (.int k)) (hc : P.cellsOf e = 1)
    (h : DataW.Trod enc P W 0 (fun _ => true) true t (.slice a n c) d p) :
    ∃ xs : List Int, xs.length = n ∧ n ≤ c ∧ c ≤ maxLen ∧ Rd W 1 a n (xs.map (Value.int k)) ∧ (∀ x ∈ xs, (Lit.int k x).wf = true) ∧
      ((a = none ∧ n = 0 ∧ c = 0) ∨ ∃ el sp, d = .slice el sp ∧ el.length + sp.length = c) := by
  obtain ⟨vs, h1, h2, h3, h4, h5, h6⟩ := rd_cells ht hc h
  have hx : ∀ v ∈ vs, ∃ x : { x : Int // (Lit.int k x).wf = true }, v = Value.int k x.1 := by
    intro v hv
    obtain ⟨m, x, q, hm⟩ := h5 v hv
    obtain ⟨y, hy, hy2, hy3⟩ := DataW.trod_int he hm
    simp at hy
    exact ⟨⟨y, hy3⟩, hy⟩
  obtain ⟨xs, rfl⟩ := list_of (fun x : { x : Int // (Lit.int k x).wf = true } => Value.int k x.1) vs hx
  refine ⟨xs.map (·.1), by simpa using h1, h2, h3, by rw [List.map_map]; exact h4, ?_, h6⟩
  intro x hx'
  obtain ⟨y, _, rfl⟩ := List.mem_map.1 hx'
  exact y.2

theorem rd_bools {t e : TypeId} {a : Option Addr} {n c : Nat} {d : DataW H} {p : List MemPlace} (ht : P.underlying t = some (.slice e)) (he : P.underlying e = some .bool) (hc : P.cellsOf e = 1)
    (h : DataW.Trod enc P W 0 (fun _ => true) true t (.slice a n c) d p) :
    ∃ xs : List Bool, xs.length = n ∧ n ≤ c ∧ c ≤ maxLen ∧ Rd W 1 a n (xs.map Value.bool) ∧
      ((a = none ∧ n = 0 ∧ c = 0) ∨ ∃ el sp, d = .slice el sp ∧ el.length + sp.length = c) := by
  obtain ⟨vs, h1, h2, h3, h4, h5, h6⟩ := rd_cells ht hc h
  have hx : ∀ v ∈ vs, ∃ x : Bool, v = Value.bool x := by
    intro v hv
    obtain ⟨m, x, q, hm⟩ := h5 v hv
    obtain ⟨y, hy, _⟩ := DataW.trod_bool he hm
    simp at hy
    exact ⟨y, hy⟩
  obtain ⟨xs, rfl⟩ := list_of Value.bool vs hx
  exact ⟨xs, by simpa using h1, h2, h3, h4, h6⟩
end

section
variable {x : Int}
theorem b_i64 (h : (Lit.int .i64 x).wf = true) : -9223372036854775808 ≤ x ∧ x ≤ 9223372036854775807 := by simpa [Lit.wf, IntKind.min, IntKind.max, IntKind.signed, IntKind.bits] using h
theorem b_u64 (h : (Lit.int .u64 x).wf = true) : 0 ≤ x ∧ x ≤ 18446744073709551615 := by simpa [Lit.wf, IntKind.min, IntKind.max, IntKind.signed, IntKind.bits] using h
theorem b_u32 (h : (Lit.int .u32 x).wf = true) : 0 ≤ x ∧ x ≤ 4294967295 := by simpa [Lit.wf, IntKind.min, IntKind.max, IntKind.signed, IntKind.bits] using h
theorem b_u8 (h : (Lit.int .u8 x).wf = true) : 0 ≤ x ∧ x ≤ 255 := by simpa [Lit.wf, IntKind.min, IntKind.max, IntKind.signed, IntKind.bits] using h
end
end Go.Proofs.YtlbbbafehhdpnaaGreatDoor

namespace Go.Proofs.YtlbbbafehhdpnaaGreatDoor
open Go.ChangeShapes Go.WideShapes Go.ChangeAt Go.RowKit
set_option linter.unusedVariables false
set_option linter.unusedSimpArgs false

theorem num_of {w : World} {A : Option Addr} {n c : Nat} {xs : List Int} (hl : xs.length = n) (hnc : n ≤ c) (hrd : Rd w 1 A n (xs.map (Value.int .u32))) (hwf : ∀ x ∈ xs, (Lit.int .u32 x).wf = true) : ∃ us : List Nat, NumU w A n c us := by
  have : ∃ us : List Nat, xs = us.map (fun (u : Nat) => (u : Int)) ∧ small us := by
    clear hl hrd
    induction xs with
    | nil => exact ⟨[], rfl, small_nil⟩
    | cons x xs ih =>
      obtain ⟨us, e, hs⟩ := ih fun y hy => hwf y (by simp [hy])
      obtain ⟨hx1, hx2⟩ := b_u32 (hwf x (by simp))
      refine ⟨x.toNat :: us, ?_, small_cons.2 ⟨?_, hs⟩⟩
      · rw [List.map_cons, ← e]
        congr 1
        omega
      · omega
  obtain ⟨us, rfl, hs⟩ := this
  have hl' : us.length = n := by simpa using hl
  refine ⟨us, ?_, hl', hnc, hs⟩
  rw [List.map_map] at hrd
  exact hrd
theorem num_trod {H : Type} {enc : TypeId × Value → H} {W : World} {v : Value} {k : Nat} {y : DataW H × List MemPlace} (t : DataW.trod enc Tryz.prog W 0 (fun _ => true) true k 31 [v] = some y) : ∃ (A : Option Addr) (n c : Nat) (us : List Nat), v = .slice A n c ∧ NumU W A n c us := by
  have key : ∀ A n c, v = .slice A n c → ∃ us, NumU W A n c us := by
    intro A n c e
    subst e
    obtain ⟨xs, hl, hnc, _, hrd, hwf, _⟩ := rd_ints (d := y.1) (p := y.2) Tryz.underlying31 Tryz.underlying92 (by kernel_rfl) ⟨k, t⟩
    exact num_of hl hnc hrd hwf
  rcases DataW.trod_slice Tryz.underlying31 t with ⟨hcs, _⟩ | ⟨a', n, c, elems, rest, m, hfu, hcs, _⟩
  · simp at hcs
    obtain ⟨us, hn⟩ := key _ _ _ hcs
    exact ⟨_, _, _, us, hcs, hn⟩
  · simp at hcs
    obtain ⟨us, hn⟩ := key _ _ _ hcs
    exact ⟨_, _, _, us, hcs, hn⟩
set_option maxRecDepth 100000 in
theorem open_num5 {H : Type} {enc : TypeId × Value → H} {W : World} {b0 : Nat} {v : Value} {d : DataW H} {p : List MemPlace} (hv : Value.okWide Tryz.prog W .any b0 53 v)
    (h : DataW.Trod enc Tryz.prog W 0 (fun _ => true) true 53 v d p) : ∃ (s : Bool) (A : Option Addr) (n c : Nat) (us : List Nat) (A2 : Option Addr) (n2 c2 : Nat) (us2 : List Nat), v = .agg #[.bool s, .slice A n c, .slice A2 n2 c2] ∧ NumU W A n c us ∧ NumU W A2 n2 c2 us2 := by
  obtain ⟨v0, v1, v2, y0, y1, y2, k, rfl, _, _, t0, t1, t2⟩ := Joins.open_agg3 Tryz.underlying53 (by kernel_rfl) (by kernel_rfl) hv h
  obtain ⟨x0, e0, _⟩ := DataW.trod_bool Tryz.underlying4 t0
  simp at e0
  subst e0
  obtain ⟨A, n, c, us, rfl, h1⟩ := num_trod t1
  obtain ⟨A2, n2, c2, us2, rfl, h2⟩ := num_trod t2
  exact ⟨_, _, _, _, us, _, _, _, us2, rfl, h1, h2⟩

/-- 'returnsInHanded_of_change_and', the world's shape handed on. -/
theorem returns_shaped_and {H : Type} {enc : TypeId × Value → H} {a : Assume} {C : Checked} {os : Os} {f : FuncId} {fn : Func} {s : ChangeSpec} {conds : List PathCond} {apart fresh handsOn again : Bool} {X : World → Array Value → Prop}
    (hX : ∀ (w w' : World) (args : Array Value), w.heap = w'.heap → X w args → X w' args)
    (own : ownKnob C.prog.godebug = none) (started : os.Started) (noInit : C.prog.inits.idxOf? f = none) (hfn : C.prog.funcs[f]? = some fn)
    (witness : ∃ (w : World) (tape : Tape) (i : Input), w.os = os ∧ (w.forCall tape i).Shaped C.prog ∧ i.vars = [] ∧ Input.okWide C.prog (w.forCall tape i) .any w.heap.size f i ∧
      ((s.pre enc C.prog fn conds apart (w.forCall tape i).memory i.args ∧ X (w.forCall tape i).memory i.args) ∧ sizedMet enc C.prog fn (OpenSpec.ofChange s) apart (w.forCall tape i).memory i.args) ∧ a.holds C.prog (lone (Frame.enter C.prog f i.args .normal) [] (w.forCall tape i)))
    (contract : ∀ (W : World) (base : Nat) (args : Array Value) (ds gs : List (DataW H)) (before : List MemPlace),
      (∀ (j : Nat) t v, fn.params[j]? = some t → args[j]? = some v → Value.okWide C.prog W .any base t v) →
      DataW.Whole enc C.prog fn.params.toList s.vars apart W args.toList ds gs before →
      conds.all (PathCond.test C.prog ⟨fn.params.toList, ds, s.plain.varTypes C.prog, gs⟩) = true →
      (DataW.weightsEach C.prog (fn.params.toList ++ s.plain.varTypes C.prog) (ds ++ gs)).all (· ≤ reachBytes) = true → X W args → W.ShapedOpen C.prog →
      Calls C.prog f args W fun e W' => ∃ v, e = .returned v ∧ s.post enc C.prog fn apart fresh handsOn again W args v W') :
    ReturnsInHanded a C os f .any (fun w args => (s.pre enc C.prog fn conds apart w args ∧ X w args) ∧ sizedMet enc C.prog fn (OpenSpec.ofChange s) apart w args) (s.post enc C.prog fn apart fresh handsOn again) := by
  refine returnsInHanded_of_calls own started noInit witness ?_
  intro w tape i _ hshape _ hinput hmet _
  obtain ⟨_, _, _, fn2, hfn2, _, _, _, _, hvals⟩ := hinput
  obtain rfl : fn2 = fn := Option.some.inj (hfn2.symm.trans hfn)
  obtain ⟨⟨⟨ds, gs, before, hwhole, hcond⟩, hxx⟩, hsizes⟩ := hmet
  refine (contract (w.forCall tape i) w.heap.size i.args ds gs before hvals (DataW.Whole.of_heap (w' := w.forCall tape i) (by rfl) hwhole) hcond (hsizes.weights hwhole) (hX _ _ _ (by rfl) hxx) hshape).mono ?_
  rintro e W' ⟨v, rfl, hpost⟩
  exact ChangeSpec.post_blind hpost
end Go.Proofs.YtlbbbafehhdpnaaGreatDoor

namespace Go.Proofs.YtlbbbafehhdpnaaGreatDoor
open Go.ChangeShapes Go.WideShapes Go.ChangeAt Go.RowKit
set_option linter.unusedVariables false
set_option linter.unusedSimpArgs false

theorem flat_get {K : Nat} : ∀ (css : List (List Value)), (∀ cs ∈ css, cs.length = K) → ∀ i j, j < K → css.flatten[i * K + j]? = (css[i]?).bind (·[j]?)
  | [], _, i, j, _ => by simp
  | cs :: r, h, 0, j, hj => by
    rw [List.flatten_cons, List.getElem?_append_left (by rw [h cs (by simp)]; omega)]
    simp
  | cs :: r, h, i + 1, j, hj => by
    have hl := h cs (by simp)
    have ih := flat_get r (fun c hc => h c (by simp [hc])) i j hj
    rw [List.flatten_cons, List.getElem?_append_right (by rw [hl, Nat.succ_mul]; omega), hl, show (i + 1) * K + j - K = i * K + j by rw [Nat.succ_mul]; omega, ih]
    simp
theorem flat_len {K : Nat} : ∀ (css : List (List Value)), (∀ cs ∈ css, cs.length = K) → css.flatten.length = css.length * K
  | [], _ => by simp
  | cs :: r, h => by
    rw [List.flatten_cons, List.length_append, h cs (by simp), flat_len r (fun c hc => h c (by simp [hc])), List.length_cons, Nat.succ_mul, Nat.add_comm]
theorem rd_blocks {H : Type} {enc : TypeId × Value → H} {W : World} {K : Nat} {t e : TypeId} {v : Value} {fuel : Nat} {y : DataW H × List MemPlace} (ht : Tryz.prog.underlying t = some (.slice e)) (hce : Tryz.prog.cellsOf e = K) (hK : 0 < K)
    (hf : DataW.trod enc Tryz.prog W 0 (fun _ => true) true fuel t [v] = some y) :
    ∃ (A : Option Addr) (n c : Nat) (css : List (List Value)), v = .slice A n c ∧ css.length = n ∧ n ≤ c ∧ c ≤ maxLen ∧ Rd W K A n css.flatten ∧ ∀ cs ∈ css, cs.length = K ∧ ∃ m x, DataW.trod enc Tryz.prog W 0 (fun _ => true) true m e cs = some x := by
  rcases Go.Deep.open_slice ht hf with ⟨hcs, _⟩ | ⟨a', n', c', m, f, D, Pl, hcs, _, hl, hm, hmm, hx, hcell⟩
  · simp at hcs
    subst hcs
    exact ⟨none, 0, 0, [], rfl, rfl, Nat.le_refl _, by unfold maxLen; omega, ⟨by simp, fun h => absurd h (by omega)⟩, by simp⟩
  · simp at hcs
    subst hcs
    simp only [if_true] at hmm
    subst hmm
    rw [hce] at hcell
    have hsp : 0 < m → a'.spot = none := by
      intro h0
      obtain ⟨cs', h1, _⟩ := hcell 0 h0
      obtain ⟨_, hlen, hget⟩ := World.cells?_some h1
      have h0' : (0 : Nat) < cs'.length := by omega
      have := World.cell?_spot ((hget 0 hK).trans (List.getElem?_eq_getElem h0'))
      simpa [Addr.add] using this
    have hone : ∀ i, i < m → ∃ cs : List Value, (cs.length = K ∧ ∃ q x, DataW.trod enc Tryz.prog W 0 (fun _ => true) true q e cs = some x) ∧ a'.spot = none ∧ (∀ j, j < K → W.cell? ⟨a'.block, a'.off + (i * K + j), none⟩ = cs[j]?) := by
      intro i hi
      have hsp := hsp (by omega)
      obtain ⟨cs', h1, h2⟩ := hcell i hi
      obtain ⟨_, hlen, hget⟩ := World.cells?_some h1
      refine ⟨cs', ⟨hlen, _, _, h2⟩, hsp, fun j hj => ?_⟩
      have := hget j hj
      obtain ⟨b, off, spot⟩ := a'
      simp only at hsp
      subst hsp
      simp only [add_none] at this
      rw [Nat.add_assoc] at this
      exact this
    obtain ⟨F, hF⟩ := Go.Deep.choose_lt (p := fun i (cs : List Value) => (cs.length = K ∧ ∃ q x, DataW.trod enc Tryz.prog W 0 (fun _ => true) true q e cs = some x) ∧ a'.spot = none ∧ (∀ j, j < K → W.cell? ⟨a'.block, a'.off + (i * K + j), none⟩ = cs[j]?)) hone
    have hin : ∀ cs ∈ (List.range n').map F, ∃ i, i < n' ∧ F i = cs := fun cs hcs => by
      obtain ⟨i, hi, e⟩ := List.mem_map.1 hcs
      exact ⟨i, List.mem_range.1 hi, e⟩
    have hlen : ∀ cs ∈ (List.range n').map F, cs.length = K := fun cs hcs => by
      obtain ⟨i, hi, rfl⟩ := hin cs hcs
      exact (hF i (by omega)).1.1
    refine ⟨some a', n', m, (List.range n').map F, rfl, by simp, hl, hm, ⟨by rw [flat_len _ hlen]; simp, fun hn => ?_⟩, fun cs hcs => ?_⟩
    · have hs := (hF 0 (by omega)).2.1
      obtain ⟨b, off, spot⟩ := a'
      simp only at hs
      subst hs
      refine ⟨b, off, rfl, fun j u hu => ?_⟩
      have hj : j < n' * K := by
        have := (List.getElem?_eq_some_iff.1 hu).1
        rw [flat_len _ hlen] at this
        simpa using this
      have hq : j / K < n' := by rw [Nat.div_lt_iff_lt_mul hK]; exact hj
      have hmod : j % K < K := Nat.mod_lt _ hK
      have ej : j / K * K + j % K = j := by rw [Nat.mul_comm]; exact Nat.div_add_mod j K
      have hc := (hF (j / K) (by omega)).2.2 (j % K) hmod
      rw [ej] at hc
      simp only at hc
      rw [hc, ← hu]
      have := flat_get _ hlen (j / K) (j % K) hmod
      rw [ej] at this
      rw [this]
      simp [hq]
    · obtain ⟨i, hi, rfl⟩ := hin cs hcs
      exact (hF i (by omega)).1
theorem choose_list {α : Type} (f : α → List Value) (P : α → Prop) : ∀ css : List (List Value), (∀ cs ∈ css, ∃ x, f x = cs ∧ P x) → ∃ l : List α, l.flatMap f = css.flatten ∧ l.length = css.length ∧ ∀ x ∈ l, P x
  | [], _ => ⟨[], rfl, rfl, by simp⟩
  | cs :: r, h => by
    obtain ⟨x, e, hp⟩ := h cs (by simp)
    obtain ⟨l, e2, hl, hq⟩ := choose_list f P r fun c hc => h c (by simp [hc])
    refine ⟨x :: l, by rw [List.flatMap_cons, e, e2, List.flatten_cons], by simp [hl], fun y hy => ?_⟩
    rcases List.mem_cons.1 hy with rfl | hy
    · exact hp
    · exact hq y hy
set_option maxRecDepth 100000 in
theorem trod_nb {H : Type} {enc : TypeId × Value → H} {W : World} {cs : List Value} {k : Nat} {y : DataW H × List MemPlace} (hl : cs.length = 3) (h : DataW.trod enc Tryz.prog W 0 (fun _ => true) true k 53 cs = some y) : ∃ b : NB, b.cells = cs ∧ b.ok W := by
  have h1 : Tryz.prog.cellsOf 4 = 1 := by kernel_rfl
  have h2 : Tryz.prog.cellsOf 31 = 1 := by kernel_rfl
  obtain ⟨y0, y1, y2, q, _, _, t0, t1, t2⟩ := Go.Deep.trod_struct3 Tryz.underlying53 h
  match cs, hl with
  | [c0, c1, c2], _ =>
    simp only [h1, h2] at t0 t1 t2
    obtain ⟨x0, e0, _⟩ := DataW.trod_bool Tryz.underlying4 t0
    simp at e0
    subst e0
    obtain ⟨A, n, c, us, e1, hn⟩ := num_trod (v := c1) t1
    obtain ⟨A2, n2, c2', us2, e2, hn2⟩ := num_trod (v := c2) t2
    subst e1; subst e2
    exact ⟨⟨x0, A, n, c, A2, n2, c2', us, us2⟩, rfl, hn, hn2⟩
theorem cells_slice {A : Option Addr} {n c : Nat} : (Value.slice A n c).cells.toList = [.slice A n c] := rfl
set_option maxRecDepth 100000 in
theorem open_ns {H : Type} {enc : TypeId × Value → H} {W : World} {b0 : Nat} {v : Value} {d : DataW H} {p : List MemPlace} (hv : Value.okWide Tryz.prog W .any b0 23 v)
    (h : DataW.Trod enc Tryz.prog W 0 (fun _ => true) true 23 v d p) : ∃ (A : Option Addr) (n c : Nat) (l : List NB), v = .slice A n c ∧ NsAt W A n c l := by
  obtain ⟨A, n, c, rfl⟩ := okWide_slice Tryz.underlying23 hv
  obtain ⟨fuel, hf⟩ := h
  rw [cells_slice] at hf
  obtain ⟨A', n', c', css, e, hl, hnc, hcm, hrd, heach⟩ := rd_blocks (K := 3) Tryz.underlying23 (by kernel_rfl) (by decide) hf
  injection e with e1 e2 e3
  subst e1; subst e2; subst e3
  obtain ⟨l, e, hll, hok⟩ := choose_list NB.cells (fun b => b.ok W) css fun cs hcs => by
    obtain ⟨h3, m, x, hx⟩ := heach cs hcs
    exact trod_nb h3 hx
  exact ⟨A, n, c, l, rfl, by rw [← e] at hrd; exact hrd, by omega, hnc, hok⟩
set_option maxRecDepth 100000 in
theorem trod_vb {H : Type} {enc : TypeId × Value → H} {W : World} {cs : List Value} {k : Nat} {y : DataW H × List MemPlace} (hl : cs.length = 4) (h : DataW.trod enc Tryz.prog W 0 (fun _ => true) true k 103 cs = some y) : ∃ b : VB, b.cells = cs ∧ b.ok W := by
  have h1 : Tryz.prog.cellsOf 3 = 1 := by kernel_rfl
  have h2 : Tryz.prog.cellsOf 53 = 3 := by kernel_rfl
  obtain ⟨y0, y1, q, _, _, t0, t1⟩ := trod_struct2 Tryz.underlying103 h
  match cs, hl with
  | [c0, c1, c2, c3], _ =>
    simp only [h1, h2] at t0 t1
    obtain ⟨x0, e0, _, w0⟩ := DataW.trod_int Tryz.underlying3 t0
    simp at e0
    subst e0
    obtain ⟨b, e, hb⟩ := trod_nb (cs := [c1, c2, c3]) rfl t1
    obtain ⟨h3, h4⟩ := b_i64 w0
    refine ⟨⟨x0, b⟩, ?_, hb, h3, h4⟩
    unfold NB.cells at e
    unfold VB.cells
    rw [← e]
set_option maxRecDepth 100000 in
theorem trod_xb {H : Type} {enc : TypeId × Value → H} {W : World} {cs : List Value} {k : Nat} {y : DataW H × List MemPlace} (hl : cs.length = 5) (h : DataW.trod enc Tryz.prog W 0 (fun _ => true) true k 57 cs = some y) : ∃ b : XB, b.cells = cs ∧ b.ok W := by
  have h1 : Tryz.prog.cellsOf 3 = 1 := by kernel_rfl
  have h2 : Tryz.prog.cellsOf 55 = 4 := by kernel_rfl
  have h3 : Tryz.prog.cellsOf 51 = 1 := by kernel_rfl
  have h4 : Tryz.prog.cellsOf 53 = 3 := by kernel_rfl
  obtain ⟨y0, y1, q, _, _, t0, t1⟩ := trod_struct2 Tryz.underlying57 h
  match cs, hl with
  | [c0, c1, c2, c3, c4], _ =>
    simp only [h1, h2] at t0 t1
    obtain ⟨x0, e0, _, w0⟩ := DataW.trod_int Tryz.underlying3 t1
    simp at e0
    subst e0
    obtain ⟨z0, z1, r, _, _, s0, s1⟩ := trod_struct2 Tryz.underlying55 t0
    simp only [h3, h4] at s0 s1
    obtain ⟨b, e, hb⟩ := trod_nb (cs := [c1, c2, c3]) rfl s1
    obtain ⟨A, n, c, css, e2, hll, hnc, hcm, hrd, heach⟩ := rd_blocks (v := c0) (K := 4) Tryz.underlying51 (by kernel_rfl) (by decide) s0
    subst e2
    obtain ⟨l, e3, hl3, hok⟩ := choose_list VB.cells (fun b => b.ok W) css fun cs hcs => by
      obtain ⟨h5, m, x, hx⟩ := heach cs hcs
      exact trod_vb h5 hx
    refine ⟨⟨A, n, c, l, b, x0⟩, ?_, ⟨by rw [← e3] at hrd; exact hrd, hl3.trans hll, hnc, hok⟩, hb⟩
    unfold NB.cells at e
    unfold XB.cells
    simp only [List.cons.injEq, and_true] at e
    obtain ⟨rfl, rfl, rfl⟩ := e
    rfl
set_option maxRecDepth 100000 in
theorem open_xs {H : Type} {enc : TypeId × Value → H} {W : World} {b0 : Nat} {v : Value} {d : DataW H} {p : List MemPlace} (hv : Value.okWide Tryz.prog W .any b0 22 v)
    (h : DataW.Trod enc Tryz.prog W 0 (fun _ => true) true 22 v d p) : ∃ (A : Option Addr) (n c : Nat) (l : List XB), v = .slice A n c ∧ XsAt W A n c l := by
  obtain ⟨A, n, c, rfl⟩ := okWide_slice Tryz.underlying22 hv
  obtain ⟨fuel, hf⟩ := h
  rw [cells_slice] at hf
  obtain ⟨A', n', c', css, e, hl, hnc, hcm, hrd, heach⟩ := rd_blocks (K := 5) Tryz.underlying22 (by kernel_rfl) (by decide) hf
  injection e with e1 e2 e3
  subst e1; subst e2; subst e3
  obtain ⟨l, e, hll, hok⟩ := choose_list XB.cells (fun b => b.ok W) css fun cs hcs => by
    obtain ⟨h3, m, x, hx⟩ := heach cs hcs
    exact trod_xb h3 hx
  exact ⟨A, n, c, l, rfl, by rw [← e] at hrd; exact hrd, by omega, hnc, hok⟩
end Go.Proofs.YtlbbbafehhdpnaaGreatDoor

namespace Go.Proofs.YtlbbbafehhdpnaaGreatDoor
open Go.RowKit
set_option linter.unusedVariables false
set_option linter.unusedSimpArgs false

set_option maxRecDepth 100000 in
theorem pow10_of {W : World} (h : laidMetH Tryz.prog Rows.attestConstraintsRow.laid W) : Pow10 W := by
  rw [MakeChecks.laidMetH_plain _ _ _ (by kernel_rfl)] at h
  have e : Rows.laid_internal_strconv_uint64pow10 = Lib.tabData (H := Unit) .u64 Lib.pow10Tab := by kernel_rfl
  have hm : ("internal/strconv.uint64pow10", Lib.tabData (H := Unit) .u64 Lib.pow10Tab) ∈ Rows.attestConstraintsRow.laid := by
    rw [← e]
    exact List.mem_of_getElem? (i := 2) rfl
  obtain ⟨g, t, cs, fuel, p, hg, ht, hvar, hd⟩ := Lib.laidMet.reads h hm
  have hg' : Tryz.prog.globalNamed "internal/strconv.uint64pow10" = some g := hg
  obtain ⟨g0, hg0⟩ : ∃ g0, Tryz.prog.globalNamed "internal/strconv.uint64pow10" = some g0 := ⟨_, hg⟩
  have hgo : Tryz.prog.globalNamed "internal/strconv.uint64pow10" = some 0 := by kernel_rfl
  obtain rfl := Option.some.inj (hgo.symm.trans hg)
  have hto : (Tryz.prog.globals[0]?).map (·.type) = some 146 := by kernel_rfl
  obtain rfl := Option.some.inj (hto.symm.trans ht)
  unfold Pow10 Lib.TabIs
  rw [hvar, ← Lib.cells_of_tab Tryz.underlying146 Tryz.underlying71 (by kernel_rfl) (by kernel_rfl) hd]
theorem constraints_law {w : World} {A : Option Addr} {n c : Nat} {l : List XB} {A2 : Option Addr} {n2 c2 : Nat} {l2 : List NB} (h : XsAt w A n c l) (h2 : NsAt w A2 n2 c2 l2) (ht : Pow10 w) :
    Calls Tryz.prog 3 #[.slice A n c, .slice A2 n2 c2] w fun r w' => r = .returned (.bool true) ∧ Below w.heap.size w w' :=
  constraints_any A n c l A2 n2 c2 l2 w h h2 ht
end Go.Proofs.YtlbbbafehhdpnaaGreatDoor
