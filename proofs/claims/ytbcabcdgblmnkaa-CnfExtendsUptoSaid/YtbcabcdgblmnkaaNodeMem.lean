/- Nodes as values, rows of nodes, the map from nodes to numbers; frames. -/
import Derived.Test.YtbcabcdgblmnkaaRows
import Derived.Test.YtbcabcdgblmnkaaMem2
import Derived.BigQuiet
import Derived.Deep.QuietTactic
import Derived.WideKeyRuns
import Derived.Laws.StructEq
namespace Go.Proofs.Ytbcabcdgblmnkaa
open Go.RowKit
set_option linter.unusedVariables false
set_option linter.unusedSimpArgs false

/-- a node, an operation -/
structure Nd where
  k : Int
  a : Int
  b : Int
deriving DecidableEq

def Nd.val (n : Nd) : Value := .agg #[.int .i64 n.k, .int .i64 n.a, .int .i64 n.b]
def ndCells (ns : List Nd) : List Value := ns.flatMap fun n => [.int .i64 n.k, .int .i64 n.a, .int .i64 n.b]
theorem ndCells_length (ns : List Nd) : (ndCells ns).length = ns.length * 3 := by
  induction ns with
  | nil => rfl
  | cons n ns ih => simp only [ndCells, List.flatMap_cons, List.length_append, List.length_cons, List.length_nil] at *; omega
theorem ndCells_append (a b : List Nd) : ndCells (a ++ b) = ndCells a ++ ndCells b := by simp [ndCells]
theorem ndCells_one (n : Nd) : ndCells [n] = [.int .i64 n.k, .int .i64 n.a, .int .i64 n.b] := rfl
theorem ndCells_get (ns : List Nd) (i : Nat) (h : i < ns.length) :
    (ndCells ns)[i * 3]? = some (.int .i64 ns[i].k) ∧ (ndCells ns)[i * 3 + 1]? = some (.int .i64 ns[i].a) ∧ (ndCells ns)[i * 3 + 2]? = some (.int .i64 ns[i].b) := by
  induction ns generalizing i with
  | nil => simp at h
  | cons n ns ih =>
    have e : ndCells (n :: ns) = [.int .i64 n.k, .int .i64 n.a, .int .i64 n.b] ++ ndCells ns := rfl
    rw [e]
    cases i with
    | zero => simp
    | succ i =>
      have hi : i < ns.length := by simpa using h
      obtain ⟨h1, h2, h3⟩ := ih i hi
      rw [List.getElem?_append_right (by simp; omega), List.getElem?_append_right (by simp; omega), List.getElem?_append_right (by simp; omega)]
      simp only [List.length_cons, List.length_nil, List.getElem_cons_succ]
      rw [← h1, ← h2, ← h3]
      refine ⟨?_, ?_, ?_⟩ <;> congr 1 <;> omega

theorem eq_nodes (t : TypeId) (x y : Nd) (w : World) (hp : Try.prog.stoodInHeld t = false)
    (hu : Try.prog.underlying t = some (.struct #[{ name := "Kind", type := 3, offset := 0, embedded := false, tag := "", pkgPath := "", byteOffset := 0 },
        { name := "A", type := 3, offset := 1, embedded := false, tag := "", pkgPath := "", byteOffset := 8 },
        { name := "B", type := 3, offset := 2, embedded := false, tag := "", pkgPath := "", byteOffset := 16 }])) :
    (Op.equal t x.val y.val).run Try.prog w = .ok (decide (x = y)) w := by
  have hf : Try.prog.fieldsOf t = #[{ name := "Kind", type := 3, offset := 0, embedded := false, tag := "", pkgPath := "", byteOffset := 0 },
        { name := "A", type := 3, offset := 1, embedded := false, tag := "", pkgPath := "", byteOffset := 8 },
        { name := "B", type := 3, offset := 2, embedded := false, tag := "", pkgPath := "", byteOffset := 16 }] := by simp [Program.fieldsOf, hu]
  have hi := Try.underlying3
  have hpart : ∀ (cs : Array Value) (i : Nat) (v : Value) (W : World), cs[i]? = some v → (part 3 cs i).run Try.prog W = .ok v W := by
    intro cs i v W hv
    have ha : (isAgg 3).run Try.prog W = .ok false W := by kernel_rfl
    simp [part, ha, hv, Result.andThen]
  obtain ⟨xk, xa, xb⟩ := x
  obtain ⟨yk, ya, yb⟩ := y
  unfold Nd.val
  simp only [Op.equal, Op.maxDepth]
  rw [run_equalIn_struct w _ t _ _ (by rw [hf]; exact hu) hp, hf]
  simp only [Op.eqFields]
  simp [hpart _ 0 (.int .i64 xk), hpart _ 1 (.int .i64 xa), hpart _ 2 (.int .i64 xb), hpart _ 0 (.int .i64 yk), hpart _ 1 (.int .i64 ya), hpart _ 2 (.int .i64 yb), run_equalIn_int _ _ _ _ _ _ _ hi, Result.andThen]
  by_cases h1 : xk = yk <;> by_cases h2 : xa = ya <;> by_cases h3 : xb = yb <;> simp [h1, h2, h3]

def ents : List (Nd × Nat) → Nat → List MapEntry
  | [], _ => []
  | n :: r, i => { key := n.1.val, val := .int .i64 (n.2 : Int), born := i } :: ents r (i + 1)
theorem ents_snoc (ns : List (Nd × Nat)) (n : Nd) (v i : Nat) : ents (ns ++ [(n, v)]) i = ents ns i ++ [{ key := n.val, val := .int .i64 (v : Int), born := i + ns.length }] := by
  induction ns generalizing i with
  | nil => simp [ents]
  | cons m ns ih =>
    simp only [List.cons_append, ents, ih, List.length_cons]
    have e : i + 1 + ns.length = i + (ns.length + 1) := by omega
    rw [e]
/-- the first place of a node -/
def fidx : List Nd → Nd → Nat → Option Nat
  | [], _, _ => none
  | m :: r, n, i => if n = m then some i else fidx r n (i + 1)
/-- a map's entry of a node: its place and what it holds -/
def pfind : List (Nd × Nat) → Nd → Nat → Option (Nat × Nat)
  | [], _, _ => none
  | m :: r, n, i => if n = m.1 then some (i, m.2) else pfind r n (i + 1)
def plook (ps : List (Nd × Nat)) (n : Nd) : Option Nat := (pfind ps n 0).map (·.2)
theorem pfind_snoc (ps : List (Nd × Nat)) (n m : Nd) (v i : Nat) : (pfind (ps ++ [(n, v)]) m i).map (·.2) = match (pfind ps m i).map (·.2) with | some x => some x | none => if m = n then some v else none := by
  induction ps generalizing i with
  | nil => simp only [List.nil_append, pfind]; by_cases h : m = n <;> simp [h]
  | cons p ps ih =>
    simp only [List.cons_append, pfind]
    by_cases h : m = p.1
    · simp [h]
    · simp only [h, if_false]; exact ih _
theorem fidx_snoc (ns : List Nd) (n m : Nd) (i : Nat) : fidx (ns ++ [n]) m i = match fidx ns m i with | some x => some x | none => if m = n then some (i + ns.length) else none := by
  induction ns generalizing i with
  | nil => simp only [List.nil_append, fidx]; by_cases h : m = n <;> simp [h]
  | cons p ps ih =>
    simp only [List.cons_append, fidx, List.length_cons]
    by_cases h : m = p
    · simp [h]
    · simp only [h, if_false]
      rw [ih]
      have e : i + 1 + ps.length = i + (ps.length + 1) := by omega
      rw [e]
/-- the map's entries answer every node's first place -/
structure MapsTo (ps : List (Nd × Nat)) (ns : List Nd) : Prop where
  len : ps.length = ns.length
  look : ∀ n, plook ps n = fidx ns n 0
theorem MapsTo.snoc {ps : List (Nd × Nat)} {ns : List Nd} (h : MapsTo ps ns) (n : Nd) : MapsTo (ps ++ [(n, ns.length)]) (ns ++ [n]) := by
  refine ⟨by simp [h.len], fun m => ?_⟩
  unfold plook
  rw [pfind_snoc, fidx_snoc]
  have := h.look m
  unfold plook at this
  rw [this, Nat.zero_add]

theorem run_findAsking_nodes (n : Nd) (w : World) (ns : List (Nd × Nat)) (i : Nat) :
    (Instr.findAsking 96 n.val (ents ns i) i).run Try.prog w = .ok ((pfind ns n i).map fun q => (q.1, .int .i64 (q.2 : Int))) w := by
  have hp : Try.prog.stoodInHeld 96 = false := by kernel_rfl
  induction ns generalizing i with
  | nil => simp [ents, Instr.findAsking, pfind]
  | cons m ns ih =>
    simp only [ents, Instr.findAsking, Sem.run_bind, eq_nodes 96 n m.1 w hp Try.underlying96, Result.andThen_ok]
    by_cases h : n = m.1
    · simp [h, pfind]
    · simp only [h, decide_false, Bool.false_eq_true, if_false]
      rw [ih]
      simp [pfind, h]

theorem run_checkKey_gen (e : Bool) (n : Nd) (d : Nat) (w : World) : (Instr.checkKey e (d + 1 + 1) 96 n.val).run Try.prog w = .ok () w := by
  have hpart : ∀ (cs : Array Value) (i : Nat) (v : Value) (W : World), cs[i]? = some v → (part 3 cs i).run Try.prog W = .ok v W := by
    intro cs i v W hv
    have ha : (isAgg 3).run Try.prog W = .ok false W := by kernel_rfl
    simp [part, ha, hv, Result.andThen]
  have hk : ∀ (x : Int) (W : World), (Instr.checkKey e (d + 1) 3 (.int .i64 x)).run Try.prog W = .ok () W := by
    intro x W
    simp [Instr.checkKey, run_underlying Try.underlying3]
  obtain ⟨nk, na, nb⟩ := n
  unfold Nd.val
  generalize hd : d + 1 = d1 at *
  simp only [Instr.checkKey, Sem.run_bind, run_underlying Try.underlying96, Result.andThen_ok]
  rw [← Array.forIn_toList]
  simp [hpart _ 0 (.int .i64 nk), hpart _ 1 (.int .i64 na), hpart _ 2 (.int .i64 nb), hk, Result.andThen]
theorem run_checkKey_node (e : Bool) (n : Nd) (w : World) : (Instr.checkKey e 10000 96 n.val).run Try.prog w = .ok () w :=
  run_checkKey_gen e n 9998 w

set_option maxRecDepth 100000 in
theorem run_look (mb : Nat) (ps : List (Nd × Nat)) (ns : List Nd) (cl : Nat) (n : Nd) (w : World) (hm : w.heap[mb]? = some (.map (ents ps 0).toArray cl)) (hps : MapsTo ps ns) :
    (Instr.lookup 135 (.map (some mb)) n.val true).run Try.prog w = .ok (.tuple #[.int .i64 (((fidx ns n 0).getD 0 : Nat) : Int), .bool (fidx ns n 0).isSome]) w := by
  have hw : (match Try.prog.underlying 96 with | some (.array _ _) | some (.struct _) => true | _ => false) = true := by rw [Try.underlying96]
  have hz : (zeroValue 3).run Try.prog w = .ok (.int .i64 0) w := by kernel_rfl
  have hg : (getObj mb).run Try.prog w = .ok (.map (ents ps 0).toArray cl) w := by simp [getObj, Sem.run, hm]
  simp only [Instr.lookup, Sem.run_bind, run_underlying Try.underlying135, Result.andThen_ok, hg, Sem.run_pure, run_checkKey_node]
  rw [run_findKey_eq w hw, run_findAsking_nodes, ← hps.look]
  unfold plook
  cases h : pfind ps n 0 with
  | none => simp [hz]
  | some q => simp

set_option maxRecDepth 100000 in
theorem run_store (mb : Nat) (ps : List (Nd × Nat)) (n : Nd) (v : Nat) (w : World) (hm : w.heap[mb]? = some (.map (ents ps 0).toArray ps.length)) (hn : plook ps n = none) :
    (Instr.mapUpdate 135 (.map (some mb)) n.val (.int .i64 (v : Int))).run Try.prog w =
      .ok () { w with heap := w.heap.setIfInBounds mb (.map (ents (ps ++ [(n, v)]) 0).toArray (ps.length + 1)) } := by
  have hw : (match Try.prog.underlying 96 with | some (.array _ _) | some (.struct _) => true | _ => false) = true := by rw [Try.underlying96]
  have hg : (getObj mb).run Try.prog w = .ok (.map (ents ps 0).toArray ps.length) w := by simp [getObj, Sem.run, hm]
  have hn' : pfind ps n 0 = none := by simpa [plook] using hn
  simp only [Instr.mapUpdate, Sem.run_bind, run_underlying Try.underlying135, Result.andThen_ok, hg, Sem.run_pure, run_checkKey_node]
  rw [run_findKey_eq w hw, run_findAsking_nodes, hn']
  simp only [Option.map_none, Result.andThen_ok]
  rw [ents_snoc]
  simp [setObj, Sem.run, hm]
end Go.Proofs.Ytbcabcdgblmnkaa
