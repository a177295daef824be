/- Formulas as trees: the plain datum, and how it lies in memory. -/
import Derived.Test.YtbcabcdgblmnkaaRows
import Derived.Test.YtbcabcdgblmnkaaFrames
import Derived.Deep.RegionLaw
import Derived.StillTailTactics
import Derived.BigQuiet
import Derived.Deep.QuietTactic
import Derived.WideKeyRuns
import Derived.Laws.StructEq
namespace Go.Proofs.Ytbcabcdgblmnkaa
open Go.RowKit
set_option linter.unusedVariables false
set_option linter.unusedSimpArgs false

inductive Fm where
  | mk (k a : Int) (sub : List Fm)
def Fm.k : Fm → Int | .mk k _ _ => k
def Fm.a : Fm → Int | .mk _ a _ => a
def Fm.sub : Fm → List Fm | .mk _ _ s => s
instance : Inhabited Fm := ⟨.mk 0 0 []⟩
theorem Fm.eta (f : Fm) : Fm.mk f.k f.a f.sub = f := by cases f; rfl

/-- the cells of a row of formulas, the rows of their parts given. -/
def fCells : List Fm → List Value → List Value
  | f :: fs, s :: ss => .int .i64 f.k :: .int .i64 f.a :: s :: fCells fs ss
  | _, _ => []
theorem fCells_length (fs : List Fm) (ss : List Value) (h : ss.length = fs.length) : (fCells fs ss).length = fs.length * 3 := by
  induction fs generalizing ss with
  | nil => cases ss <;> rfl
  | cons f fs ih =>
    cases ss with
    | nil => simp at h
    | cons s ss =>
      simp only [fCells, List.length_cons]
      rw [ih ss (by simpa using h)]
      omega
theorem fCells_get (fs : List Fm) (ss : List Value) (i : Nat) (f : Fm) (s : Value) (hf : fs[i]? = some f) (hs : ss[i]? = some s) :
    (fCells fs ss)[i * 3]? = some (.int .i64 f.k) ∧ (fCells fs ss)[i * 3 + 1]? = some (.int .i64 f.a) ∧ (fCells fs ss)[i * 3 + 2]? = some s := by
  induction fs generalizing ss i with
  | nil => simp at hf
  | cons f0 fs ih =>
    cases ss with
    | nil => simp at hs
    | cons s0 ss =>
      cases i with
      | zero =>
        simp only [List.getElem?_cons_zero, Option.some.injEq] at hf hs
        subst hf; subst hs
        exact ⟨rfl, rfl, rfl⟩
      | succ i =>
        simp only [List.getElem?_cons_succ] at hf hs
        obtain ⟨h0, h1, h2⟩ := ih ss i hf hs
        simp only [fCells]
        rw [show (i + 1) * 3 = i * 3 + 1 + 1 + 1 by omega]
        exact ⟨by simpa using h0, by simpa using h1, by simpa using h2⟩
theorem fCells_append (fs gs : List Fm) (ss ts : List Value) (h : ss.length = fs.length) : fCells (fs ++ gs) (ss ++ ts) = fCells fs ss ++ fCells gs ts := by
  induction fs generalizing ss with
  | nil => cases ss with
    | nil => rfl
    | cons s ss => simp at h
  | cons f fs ih =>
    cases ss with
    | nil => simp at h
    | cons s ss =>
      simp only [List.cons_append, fCells]
      rw [ih ss (by simpa using h)]

/-- the parts of a formula, as they are read in a world. -/
inductive FIn (w : World) : List Fm → Value → Prop
  | mk (A : Option Addr) (n c : Nat) (fs : List Fm) (ss : List Value) (hl : fs.length = n) (hs : ss.length = n) (hnc : n ≤ c) (hc : c ≤ maxLen) (hr : Rd w 3 A n (fCells fs ss))
      (hsub : ∀ (i : Nat) (f : Fm) (s : Value), fs[i]? = some f → ss[i]? = some s → FIn w f.sub s) : FIn w fs (.slice A n c)
theorem FIn.form {w : World} {fs : List Fm} {v : Value} (h : FIn w fs v) : ∃ A c, v = .slice A fs.length c ∧ fs.length ≤ c ∧ c ≤ maxLen := by
  cases h with
  | mk A n c fs ss hl hs hnc hc hr hsub => exact ⟨A, c, by rw [hl], by omega, hc⟩
theorem FIn.keep {w w' : World} {fs : List Fm} {v : Value} (h : FIn w fs v) (hk : ∀ p : Addr, p.block < w.heap.size → w'.cell? p = w.cell? p) : FIn w' fs v := by
  induction h with
  | mk A n c fs ss hl hs hnc hc hr hsub ih => exact .mk A n c fs ss hl hs hnc hc (hr.keep hk) ih
theorem FIn.at_ {w w' : World} {fs : List Fm} {v : Value} (h : FIn w fs v) (hb : Below w.heap.size w w') : FIn w' fs v := h.keep fun _ hp => hb.cell hp

mutual
/-- nodes down to the limit of depth, up to the limit of nodes. -/
def countF : Fm → Nat → Nat → Nat
  | .mk _ _ sub, n, d => if 200 < d then 20001 else countL sub (n + 1) d
def countL : List Fm → Nat → Nat → Nat
  | [], n, _ => n
  | s :: ss, n, d => if 20000 < n then n else countL ss (countF s n (d + 1)) d
end
end Go.Proofs.Ytbcabcdgblmnkaa
