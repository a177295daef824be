/- A map of keys of clauses to places: what it answers, and how it grows. -/
import Derived.Test.YtbcabcdgblmnkaaClKey2
import Derived.WideKeyRuns
namespace Go.Proofs.Ytbcabcdgblmnkaa
open Go.RowKit
set_option linter.unusedVariables false
set_option linter.unusedSimpArgs false

def ents8 : List (K8 × Nat) → Nat → List MapEntry
  | [], _ => []
  | n :: r, i => { key := n.1.val, val := .int .i64 (n.2 : Int), born := i } :: ents8 r (i + 1)
theorem ents8_snoc (ns : List (K8 × Nat)) (n : K8) (v i : Nat) : ents8 (ns ++ [(n, v)]) i = ents8 ns i ++ [{ key := n.val, val := .int .i64 (v : Int), born := i + ns.length }] := by
  induction ns generalizing i with
  | nil => simp [ents8]
  | cons m ns ih =>
    simp only [List.cons_append, ents8, ih, List.length_cons]
    have e : i + 1 + ns.length = i + (ns.length + 1) := by omega
    rw [e]
def pfind8 : List (K8 × Nat) → K8 → Nat → Option (Nat × Nat)
  | [], _, _ => none
  | m :: r, n, i => if n = m.1 then some (i, m.2) else pfind8 r n (i + 1)
def plook8 (ps : List (K8 × Nat)) (n : K8) : Option Nat := (pfind8 ps n 0).map (·.2)
theorem pfind8_snoc (ps : List (K8 × Nat)) (n m : K8) (v i : Nat) : (pfind8 (ps ++ [(n, v)]) m i).map (·.2) = match (pfind8 ps m i).map (·.2) with | some x => some x | none => if m = n then some v else none := by
  induction ps generalizing i with
  | nil => simp only [List.nil_append, pfind8]; by_cases h : m = n <;> simp [h]
  | cons p ps ih =>
    simp only [List.cons_append, pfind8]
    by_cases h : m = p.1
    · simp [h]
    · simp only [h, if_false]; exact ih _
theorem plook8_snoc (ps : List (K8 × Nat)) (n m : K8) (v : Nat) : plook8 (ps ++ [(n, v)]) m = match plook8 ps m with | some x => some x | none => if m = n then some v else none := pfind8_snoc ps n m v 0

theorem run_findAsking8 (n : K8) (w : World) (ns : List (K8 × Nat)) (i : Nat) :
    (Instr.findAsking 47 n.val (ents8 ns i) i).run Try.prog w = .ok ((pfind8 ns n i).map fun q => (q.1, .int .i64 (q.2 : Int))) w := by
  induction ns generalizing i with
  | nil => simp [ents8, Instr.findAsking, pfind8]
  | cons m ns ih =>
    simp only [ents8, Instr.findAsking, Sem.run_bind, run_eql_key n m.1 w, Result.andThen_ok]
    by_cases h : n = m.1
    · simp [h, pfind8]
    · simp only [h, decide_false, Bool.false_eq_true, if_false]
      rw [ih]
      simp [pfind8, h]
theorem run_checkKey8 (e : Bool) (n : K8) (w : World) : (Instr.checkKey e 10000 47 n.val).run Try.prog w = .ok () w := by
  have hpi := run_part_int
  have hk : ∀ (x : Int) (d : Nat) (W : World), (Instr.checkKey e (d + 1) 3 (.int .i64 x)).run Try.prog W = .ok () W := by
    intro x d W
    simp [Instr.checkKey, run_underlying Try.underlying3]
  have hks : ∀ (x : ByteArray) (d : Nat) (W : World), (Instr.checkKey e (d + 1) 9 (.string x)).run Try.prog W = .ok () W := by
    intro x d W
    simp [Instr.checkKey, run_underlying Try.underlying9]
  have hps : ∀ (cs : Array Value) (i : Nat) (v : Value) (W : World), cs[i]? = some v → (part 9 cs i).run Try.prog W = .ok v W := by
    intro cs i v W hv
    have ha : (isAgg 9).run Try.prog W = .ok false W := by kernel_rfl
    simp [part, ha, hv, Result.andThen]
  have hpa : ∀ (n a b c d e f : Int) (s : ByteArray) (W : World), (part 45 #[.int .i64 n, .int .i64 a, .int .i64 b, .int .i64 c, .int .i64 d, .int .i64 e, .int .i64 f, .string s] 1).run Try.prog W = .ok (.agg #[.int .i64 a, .int .i64 b, .int .i64 c, .int .i64 d, .int .i64 e, .int .i64 f]) W := by
    intro n a b c d e f s W
    have ha : (isAgg 45).run Try.prog W = .ok true W := by kernel_rfl
    have hs : (sizeOf 45).run Try.prog W = .ok 6 W := by kernel_rfl
    simp [part, ha, hs, Result.andThen]
  have hka : ∀ (a b c d e' f : Int) (k : Nat) (W : World), (Instr.checkKey e (k + 1 + 1) 45 (.agg #[.int .i64 a, .int .i64 b, .int .i64 c, .int .i64 d, .int .i64 e', .int .i64 f])).run Try.prog W = .ok () W := by
    intro a b c d e' f k W
    have hs : (sizeOf 3).run Try.prog W = .ok 1 W := by kernel_rfl
    generalize hd : k + 1 = d1 at *
    have hk1 : ∀ x W, (Instr.checkKey e d1 3 (.int .i64 x)).run Try.prog W = .ok () W := fun x W => hd ▸ hk x k W
    simp only [Instr.checkKey, Sem.run_bind, run_underlying Try.underlying45, Result.andThen_ok]
    simp only [Std.Legacy.Range.forIn_eq_forIn_range', Std.Legacy.Range.size, Nat.sub_zero, Nat.add_one_sub_one, Nat.div_one]
    rw [show List.range' 0 6 = [0, 1, 2, 3, 4, 5] from rfl]
    simp [hs, hpi _ 0 (.int .i64 a), hpi _ 1 (.int .i64 b), hpi _ 2 (.int .i64 c), hpi _ 3 (.int .i64 d), hpi _ 4 (.int .i64 e'), hpi _ 5 (.int .i64 f), hk1, Result.andThen]
  obtain ⟨n, a, b, c, d, e', f, s⟩ := n
  unfold K8.val
  generalize hd : (9999 : Nat) = d1 at *
  rw [show (10000 : Nat) = d1 + 1 by omega]
  have hk1 : ∀ x W, (Instr.checkKey e d1 3 (.int .i64 x)).run Try.prog W = .ok () W := fun x W => hd ▸ hk x 9998 W
  have hk2 : ∀ x W, (Instr.checkKey e d1 9 (.string x)).run Try.prog W = .ok () W := fun x W => hd ▸ hks x 9998 W
  have hk3 : ∀ a b c d e' f W, (Instr.checkKey e d1 45 (.agg #[.int .i64 a, .int .i64 b, .int .i64 c, .int .i64 d, .int .i64 e', .int .i64 f])).run Try.prog W = .ok () W := fun a b c d e' f W => hd ▸ hka a b c d e' f 9997 W
  simp only [Instr.checkKey, Sem.run_bind, run_underlying Try.underlying47, Result.andThen_ok]
  rw [← Array.forIn_toList]
  simp [hpi _ 0 (.int .i64 n), hpa, hps _ 7 (.string s), hk1, hk2, hk3, Result.andThen]

set_option maxRecDepth 100000 in
theorem run_look8 (mb : Nat) (ps : List (K8 × Nat)) (cl : Nat) (n : K8) (w : World) (hm : w.heap[mb]? = some (.map (ents8 ps 0).toArray cl)) :
    (Instr.lookup 86 (.map (some mb)) n.val true).run Try.prog w = .ok (.tuple #[.int .i64 (((plook8 ps n).getD 0 : Nat) : Int), .bool (plook8 ps n).isSome]) w := by
  have hw : (match Try.prog.underlying 47 with | some (.array _ _) | some (.struct _) => true | _ => false) = true := by rw [Try.underlying47]
  have hz : (zeroValue 3).run Try.prog w = .ok (.int .i64 0) w := by kernel_rfl
  have hg : (getObj mb).run Try.prog w = .ok (.map (ents8 ps 0).toArray cl) w := by simp [getObj, Sem.run, hm]
  simp only [Instr.lookup, Sem.run_bind, run_underlying Try.underlying86, Result.andThen_ok, hg, Sem.run_pure, run_checkKey8]
  rw [run_findKey_eq w hw, run_findAsking8]
  unfold plook8
  cases h : pfind8 ps n 0 with
  | none => simp [hz]
  | some q => simp
set_option maxRecDepth 100000 in
theorem run_look8' (mb : Nat) (ps : List (K8 × Nat)) (cl : Nat) (n : K8) (w : World) (hm : w.heap[mb]? = some (.map (ents8 ps 0).toArray cl)) :
    (Instr.lookup 86 (.map (some mb)) n.val false).run Try.prog w = .ok (.int .i64 (((plook8 ps n).getD 0 : Nat) : Int)) w := by
  have hw : (match Try.prog.underlying 47 with | some (.array _ _) | some (.struct _) => true | _ => false) = true := by rw [Try.underlying47]
  have hz : (zeroValue 3).run Try.prog w = .ok (.int .i64 0) w := by kernel_rfl
  have hg : (getObj mb).run Try.prog w = .ok (.map (ents8 ps 0).toArray cl) w := by simp [getObj, Sem.run, hm]
  simp only [Instr.lookup, Sem.run_bind, run_underlying Try.underlying86, Result.andThen_ok, hg, Sem.run_pure, run_checkKey8]
  rw [run_findKey_eq w hw, run_findAsking8]
  unfold plook8
  cases h : pfind8 ps n 0 with
  | none => simp [hz]
  | some q => simp
set_option maxRecDepth 100000 in
theorem run_store8 (mb : Nat) (ps : List (K8 × Nat)) (n : K8) (v : Nat) (w : World) (hm : w.heap[mb]? = some (.map (ents8 ps 0).toArray ps.length)) (hn : plook8 ps n = none) :
    (Instr.mapUpdate 86 (.map (some mb)) n.val (.int .i64 (v : Int))).run Try.prog w =
      .ok () { w with heap := w.heap.setIfInBounds mb (.map (ents8 (ps ++ [(n, v)]) 0).toArray (ps.length + 1)) } := by
  have hw : (match Try.prog.underlying 47 with | some (.array _ _) | some (.struct _) => true | _ => false) = true := by rw [Try.underlying47]
  have hg : (getObj mb).run Try.prog w = .ok (.map (ents8 ps 0).toArray ps.length) w := by simp [getObj, Sem.run, hm]
  have hn' : pfind8 ps n 0 = none := by simpa [plook8] using hn
  simp only [Instr.mapUpdate, Sem.run_bind, run_underlying Try.underlying86, Result.andThen_ok, hg, Sem.run_pure, run_checkKey8]
  rw [run_findKey_eq w hw, run_findAsking8, hn']
  simp only [Option.map_none, Result.andThen_ok]
  rw [ents8_snoc]
  simp [setObj, Sem.run, hm]
end Go.Proofs.Ytbcabcdgblmnkaa
