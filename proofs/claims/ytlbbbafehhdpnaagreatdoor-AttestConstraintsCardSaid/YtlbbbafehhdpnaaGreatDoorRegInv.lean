/- A region that draws its order, by what each of its operations leaves behind: one case an operation, whatever the order. No program in sight. -/
import Derived.RegionTactic
import Derived.Test.YtlbbbafehhdpnaaGreatDoorAtomC
namespace Go.Proofs.YtlbbbafehhdpnaaGreatDoor
set_option linter.unusedVariables false
set_option linter.unusedSimpArgs false

/-- Each operation waits for earlier ones alone. -/
def upward (ops : Array Oper) : Bool := (List.range ops.size).all fun i => ((ops[i]?).map (·.after.all fun e => !Region.binds .any e || decide (e.on < i))).getD true
def puts (a : Act) (f : Nat → Value) : List Nat → Act
  | [] => a
  | s :: r => (puts a f r).put (some s) (f s)
/-- what is to be shown of each operation: D tells which have come up. -/
def StepsOk (P : Program) (ops : Array Oper) (Q : Exit → Act → World → Prop) (J : (Nat → Bool) → Act → World → Prop) : Nat → List Oper → Prop
  | _, [] => True
  | i, o :: rest => (∀ D a w, J D a w → D i = false → (∀ e ∈ o.after, Region.binds .any e = true → D e.on = true) → ∀ K : Act → World → Prop, (∀ a w, J (fun j => j == i || D j) a w → K a w) → if Region.wanted o (yielded ops a.tmps) = true then Oper.wp P o a w K Q else K (a.put o.dst undef) w) ∧ StepsOk P ops Q J (i + 1) rest

theorem stepsOk_at {P : Program} {ops : Array Oper} {Q : Exit → Act → World → Prop} {J : (Nat → Bool) → Act → World → Prop} : ∀ (l : List Oper) (k i : Nat) (o : Oper), StepsOk P ops Q J k l → l[i]? = some o →
    ∀ D a w, J D a w → D (k + i) = false → (∀ e ∈ o.after, Region.binds .any e = true → D e.on = true) → ∀ K : Act → World → Prop, (∀ a w, J (fun j => j == (k + i) || D j) a w → K a w) → if Region.wanted o (yielded ops a.tmps) = true then Oper.wp P o a w K Q else K (a.put o.dst undef) w
  | [], _, _, _, _, h => by simp at h
  | o' :: rest, k, 0, o, hs, h => by
    simp at h
    subst h
    exact hs.1
  | o' :: rest, k, i + 1, o, hs, h => by
    have := stepsOk_at rest (k + 1) i o hs.2 (by simpa using h)
    rw [show k + 1 + i = k + (i + 1) by omega] at this
    exact this

theorem upward_at {ops : Array Oper} (h : upward ops = true) {i : Nat} {o : Oper} (ho : ops[i]? = some o) : ∀ e ∈ o.after, Region.binds .any e = true → e.on < i := by
  intro e he hb
  unfold upward at h
  have hi : i < ops.size := (Array.getElem?_eq_some_iff.1 ho).1
  have h1 := List.all_eq_true.1 h i (List.mem_range.2 hi)
  rw [ho] at h1
  simp only [Option.map_some, Option.getD_some, Array.all_eq_true'] at h1
  have h2 := h1 e he
  rw [hb] at h2
  simpa using h2

theorem ready_nil {ops : Array Oper} (hu : upward ops = true) {listed : Array Bool} (hsz : listed.size = ops.size) (hr : Region.ready .any ops listed = []) : ∀ i, i < ops.size → listed.getD i false = true := by
  intro i
  induction i using Nat.strongRecOn with
  | ind i ih =>
    intro hi
    rcases hb : listed.getD i false with _ | _
    · have ho : ops[i]? = some ops[i] := Array.getElem?_eq_getElem hi
      have : i ∈ Region.ready .any ops listed := mem_ready.2 ⟨by
        rw [← hb]
        simp [Array.getD, hsz, hi], ops[i], ho, fun e he hbd => by
        have hlt := upward_at hu ho e he hbd
        exact ih e.on hlt (by omega)⟩
      rw [hr] at this
      cases this
    · rfl

def unl (listed : Array Bool) : Nat := (listed.toList.filter (fun b => !b)).length
theorem unl_set : ∀ (l : List Bool) (i : Nat), l[i]? = some false → ((l.set i true).filter (fun b => !b)).length + 1 = (l.filter (fun b => !b)).length
  | [], i, h => by simp at h
  | b :: l, 0, h => by
    simp at h
    subst h
    simp
  | b :: l, i + 1, h => by
    have := unl_set l i (by simpa using h)
    cases b <;> simp [List.set_cons_succ] at this ⊢ <;> omega

theorem wpAny_inv {P : Program} {ops : Array Oper} {Q : Exit → Act → World → Prop} (hu : upward ops = true) {J : (Nat → Bool) → Act → World → Prop} (hs : StepsOk P ops Q J 0 ops.toList)
    (hend : ∀ D a w, J D a w → (∀ i, i < ops.size → D i = true) → Q .normal a w) :
    ∀ (fuel : Nat) (listed : Array Bool) (a : Act) (w : World), listed.size = ops.size → unl listed ≤ fuel → J (fun j => listed.getD j false) a w → wpAny P .any ops Q fuel listed a w := by
  intro fuel
  induction fuel with
  | zero =>
    intro listed a w hsz hf hJ
    have hr : Region.ready .any ops listed = [] := by
      cases hr : Region.ready .any ops listed with
      | nil => rfl
      | cons i rs =>
        have hi : i ∈ Region.ready .any ops listed := by rw [hr]; exact List.mem_cons_self
        obtain ⟨h1, o, ho, _⟩ := mem_ready.1 hi
        have hlt : i < ops.size := (Array.getElem?_eq_some_iff.1 ho).1
        have h2 : listed.toList[i]? = some false := by
          rw [Array.getElem?_toList, Array.getElem?_eq_getElem (by omega)]
          simp [Array.getD, hsz, hlt] at h1
          rw [h1]
        have := unl_set listed.toList i h2
        unfold unl at hf
        omega
    exact ⟨hr, hend _ _ _ hJ (ready_nil hu hsz hr)⟩
  | succ fuel ih =>
    intro listed a w hsz hf hJ
    refine ⟨fun hr => hend _ _ _ hJ (ready_nil hu hsz hr), fun i hi => ?_⟩
    obtain ⟨h1, o, ho, hall⟩ := mem_ready.1 hi
    have hlt : i < ops.size := (Array.getElem?_eq_some_iff.1 ho).1
    have hli : listed[i]? = some false := by
      rw [Array.getElem?_eq_getElem (by omega)]
      simp [Array.getD, hsz, hlt] at h1
      rw [h1]
    refine wpOp_step ho fun K hK => ?_
    have hstep := stepsOk_at ops.toList 0 i o hs (by simpa using ho) (fun j => listed.getD j false) a w hJ (by simp [Array.getD, hli, hsz, hlt] at h1 ⊢; exact h1) hall K
    rw [Nat.zero_add] at hstep
    refine hstep fun a' w' hJ' => hK a' w' (ih _ a' w' (by simpa using hsz) ?_ ?_)
    · have := unl_set listed.toList i (by simpa using hli)
      unfold unl at hf ⊢
      rw [Array.toList_setIfInBounds]
      omega
    · have : (fun j => (listed.setIfInBounds i true).getD j false) = fun j => j == i || listed.getD j false := by
        funext j
        rw [Array.getD_eq_getD_getElem?, Array.getD_eq_getD_getElem?, Array.getElem?_setIfInBounds]
        by_cases hji : i = j
        · subst hji
          simp [hsz, hlt]
        · rw [if_neg hji]
          have : (j == i) = false := by simp; omega
          rw [this, Bool.false_or]
      rw [this]
      exact hJ'

theorem puts_self (a : Act) : ∀ l : List Nat, puts a (fun s => a.tmps.getD s undef) l = a
  | [] => rfl
  | s :: r => by
    unfold puts
    rw [puts_self a r]
    unfold Act.put
    obtain ⟨t, d⟩ := a
    simp only
    congr 1
    apply Array.ext_getElem?
    intro j
    rw [Array.getElem?_setIfInBounds]
    by_cases hj : s = j
    · subst hj
      by_cases hlt : s < t.size
      · simp [Array.getD, hlt]
      · simp [hlt]
    · rw [if_neg hj]

/-- The region, from what each operation leaves: I tells, of the operations that have come up (D), what their slots hold (f) in the world at hand. -/
theorem region_inv {P : Program} {id : Nat} {l : List Oper} {Q : Exit → Act → World → Prop} {a : Act} {w : World} (hm : P.follows .mixedOrders = true) (hu : upward l.toArray = true) (slots : List Nat) (I : (Nat → Bool) → (Nat → Value) → World → Prop)
    (h0 : ∀ f, I (fun _ => false) f w.drew)
    (hs : StepsOk P l.toArray Q (fun D a' w' => ∃ f, a' = puts a f slots ∧ I D f w') 0 l)
    (hend : ∀ D f w', I D f w' → (∀ i, i < l.length → D i = true) → Q .normal (puts a f slots) w') : (Code.region id l.toArray true).wp P Q a w := by
  refine wp_region_any hm (wpAny_inv (J := fun D a' w' => ∃ f, a' = puts a f slots ∧ I D f w') hu hs (fun D a' w' ⟨f, e, hI⟩ hD => by subst e; exact hend D f w' hI (by simpa using hD)) _ _ _ _ (by simp) ?_ ⟨_, (puts_self a slots).symm, ?_⟩)
  · unfold unl
    rw [Array.toList_replicate]
    refine Nat.le_trans (List.length_filter_le _ _) ?_
    simp
  · have : (fun j => (Array.replicate l.toArray.size false).getD j false) = fun _ => false := by
      funext j
      simp [Array.getD]
    rw [this]
    exact h0 _
end Go.Proofs.YtlbbbafehhdpnaaGreatDoor

namespace Go.Proofs.YtlbbbafehhdpnaaGreatDoor
open Go.RowKit
set_option linter.unusedVariables false
set_option linter.unusedSimpArgs false

/-- a constraint in memory. -/
structure AB where
  A : Option Addr
  n : Nat
  c : Nat
  b : RB
  l : List TB
  q : Rat
  op : Int
def AB.cells (a : AB) : List Value := [.slice a.A a.n a.c, .bool (ratNeg a.q), .slice a.b.A a.b.n a.b.c, .slice a.b.A2 a.b.n2 a.b.c2, .int .i64 a.op]
def AB.val (a : AB) : Value := .agg #[.slice a.A a.n a.c, .bool (ratNeg a.q), .slice a.b.A a.b.n a.b.c, .slice a.b.A2 a.b.n2 a.b.c2, .int .i64 a.op]
/-- what it says at a point. -/
def AB.says (a : AB) (p : Int → Rat) : Bool := saysQ a.op (evE p a.l a.q)
structure AOk (w : World) (m k : Nat) (a : AB) : Prop where
  tms : TmsAt w a.A a.n a.c a.l k
  cst : RatAt w a.b a.q
  le : RatLe a.q k
  few : a.n ≤ m
  lo : 1 ≤ a.op
  hi : a.op ≤ 3
theorem AOk.below {w w' : World} {m k : Nat} {a : AB} (h : AOk w m k a) (hb : Below w.heap.size w w') : AOk w' m k a := ⟨h.tms.below hb, h.cst.below hb, h.le, h.few, h.lo, h.hi⟩
theorem AOk.fr {S : Nat → Prop} {w w' : World} {m k : Nat} {a : AB} (h : AOk w m k a) (hf : Fr S w w') (hS : ∀ b, S b → ∃ cs t m, w.heap[b]? = some (.cells cs t m) ∧ t ≠ 92 ∧ t ≠ 70) : AOk w' m k a := ⟨h.tms.fr hf hS, h.cst.frB hf hS, h.le, h.few, h.lo, h.hi⟩
def atmsL (l : List AB) : List Value := l.flatMap AB.cells
theorem atmsL_cons (a : AB) (l : List AB) : atmsL (a :: l) = a.cells ++ atmsL l := List.flatMap_cons
theorem atmsL_app (l m : List AB) : atmsL (l ++ m) = atmsL l ++ atmsL m := List.flatMap_append
theorem atmsL_len : ∀ l : List AB, (atmsL l).length = l.length * 5
  | [] => rfl
  | p :: l => by
    have := atmsL_len l
    rw [atmsL_cons, List.length_append, this, List.length_cons]
    simp [AB.cells]
    omega
theorem atmsL_at : ∀ (l : List AB) (k : Nat) (p : AB), l[k]? = some p → ∀ j, j < 5 → (atmsL l)[k * 5 + j]? = p.cells[j]?
  | [], k, p, h, _, _ => by simp at h
  | p' :: l, 0, p, h, j, hj => by
    simp at h
    subst h
    rw [atmsL_cons, List.getElem?_append_left (by simp [AB.cells]; omega)]
    simp
  | p' :: l, k + 1, p, h, j, hj => by
    have ih := atmsL_at l k p (by simpa using h) j hj
    have hl : p'.cells.length = 5 := rfl
    rw [atmsL_cons, List.getElem?_append_right (by omega), hl, show (k + 1) * 5 + j - 5 = k * 5 + j by omega]
    exact ih
/-- a list of constraints: the slice reads as these. -/
structure AtmsAt (w : World) (A : Option Addr) (n c : Nat) (l : List AB) (m k : Nat) : Prop where
  rd : Rd w 5 A n (atmsL l)
  len : l.length = n
  cap : n ≤ c
  each : ∀ a ∈ l, AOk w m k a
theorem AtmsAt.below {w w' : World} {A : Option Addr} {n c m k : Nat} {l : List AB} (h : AtmsAt w A n c l m k) (hb : Below w.heap.size w w') : AtmsAt w' A n c l m k := ⟨h.rd.below hb, h.len, h.cap, fun p hp => (h.each p hp).below hb⟩
theorem Rd.at5 {w : World} {A : Option Addr} {n : Nat} {l : List AB} (h : Rd w 5 A n (atmsL l)) (hl : l.length = n) {i : Nat} (hi : i < n) : ∃ (g off : Nat) (a : AB), A = some ⟨g, off, none⟩ ∧ l[i]? = some a ∧ w.cell? ⟨g, off + i * 5, none⟩ = some (.slice a.A a.n a.c) ∧ w.cell? ⟨g, off + i * 5 + 1, none⟩ = some (.bool (ratNeg a.q)) ∧ w.cell? ⟨g, off + i * 5 + 2, none⟩ = some (.slice a.b.A a.b.n a.b.c) ∧ w.cell? ⟨g, off + i * 5 + 3, none⟩ = some (.slice a.b.A2 a.b.n2 a.b.c2) ∧ w.cell? ⟨g, off + i * 5 + 4, none⟩ = some (.int .i64 a.op) := by
  obtain ⟨g, off, e, hc⟩ := h.2 (by omega)
  have hl' : i < l.length := by omega
  have key := atmsL_at l i l[i] (List.getElem?_eq_getElem hl')
  refine ⟨g, off, l[i], e, List.getElem?_eq_getElem hl', ?_, ?_, ?_, ?_, ?_⟩
  · have := hc (i * 5) _ ((key 0 (by decide)).trans rfl)
    exact this
  · have := hc (i * 5 + 1) _ ((key 1 (by decide)).trans rfl)
    rwa [← Nat.add_assoc] at this
  · have := hc (i * 5 + 2) _ ((key 2 (by decide)).trans rfl)
    rwa [← Nat.add_assoc] at this
  · have := hc (i * 5 + 3) _ ((key 3 (by decide)).trans rfl)
    rwa [← Nat.add_assoc] at this
  · have := hc (i * 5 + 4) _ ((key 4 (by decide)).trans rfl)
    rwa [← Nat.add_assoc] at this
theorem AtmsAt.of_own {w : World} {B n m k : Nat} {v : Value} {l : List AB} (h : w.ownsRow B 41 5 v n (atmsL l)) (he : ∀ a ∈ l, AOk w m k a) : ∃ A c, v = .slice A n c ∧ AtmsAt w A n c l m k := by
  obtain ⟨A, c, rfl, hc, hr⟩ := ownsRow_form h
  refine ⟨A, c, rfl, hr, ?_, hc, he⟩
  have := h.1
  rw [atmsL_len] at this
  omega
def NegV (w : World) (v : Value) : Prop := ∃ b : RB, v = .agg #[.bool (ratNeg (-1)), .slice b.A b.n b.c, .slice b.A2 b.n2 b.c2] ∧ RatAt w b (-1)
theorem NegV.below {w w' : World} {v : Value} (h : NegV w v) (hb : Below w.heap.size w w') : NegV w' v := by
  obtain ⟨b, e, h⟩ := h
  exact ⟨b, e, h.below hb⟩
/-- an expression of value f, its five facts. -/
structure EOk (w : World) (m k : Nat) (f : (Int → Rat) → Rat) (A : Option Addr) (n c : Nat) (b : RB) (l : List TB) (q : Rat) : Prop where
  tms : TmsAt w A n c l k
  cst : RatAt w b q
  le : RatLe q k
  few : n ≤ m
  val : ∀ p, evE p l q = f p
theorem EOk.below {w w' : World} {m k : Nat} {f : (Int → Rat) → Rat} {A : Option Addr} {n c : Nat} {b : RB} {l : List TB} {q : Rat} (h : EOk w m k f A n c b l q) (hb : Below w.heap.size w w') : EOk w' m k f A n c b l q := ⟨h.tms.below hb, h.cst.below hb, h.le, h.few, h.val⟩
theorem EOk.fr {S : Nat → Prop} {w w' : World} {m k : Nat} {f : (Int → Rat) → Rat} {A : Option Addr} {n c : Nat} {b : RB} {l : List TB} {q : Rat} (h : EOk w m k f A n c b l q) (hf : Fr S w w') (hS : ∀ b, S b → ∃ cs t m, w.heap[b]? = some (.cells cs t m) ∧ t ≠ 92 ∧ t ≠ 70) : EOk w' m k f A n c b l q := ⟨h.tms.fr hf hS, h.cst.frB hf hS, h.le, h.few, h.val⟩
def ExV (w : World) (m k : Nat) (f : (Int → Rat) → Rat) (v : Value) : Prop := ∃ (A : Option Addr) (n c : Nat) (b : RB) (l : List TB) (q : Rat), v = .agg #[.slice A n c, .bool (ratNeg q), .slice b.A b.n b.c, .slice b.A2 b.n2 b.c2] ∧ EOk w m k f A n c b l q
theorem ExV.below {w w' : World} {m k : Nat} {f : (Int → Rat) → Rat} {v : Value} (h : ExV w m k f v) (hb : Below w.heap.size w w') : ExV w' m k f v := by
  obtain ⟨A, n, c, b, l, q, e, h⟩ := h
  exact ⟨A, n, c, b, l, q, e, h.below hb⟩
def NewE (w : World) (B : Nat) (v : Value) : Prop := ∃ (g : Nat) (A : Option Addr) (n c : Nat) (s : Bool) (b : RB), v = .pointer (some ⟨g, 0, none⟩) ∧ B ≤ g ∧ w.heap[g]? = some (.cells #[.slice A n c, .bool s, .slice b.A b.n b.c, .slice b.A2 b.n2 b.c2] 35 (0, 0))
theorem NewE.below {w w' : World} {B : Nat} {v : Value} (h : NewE w B v) (hb : Below w.heap.size w w') : NewE w' B v := by
  obtain ⟨g, A, n, c, s, b, e, hg, hx⟩ := h
  exact ⟨g, A, n, c, s, b, e, hg, box_keep hx hb⟩
def BoxE (w : World) (B m k : Nat) (f : (Int → Rat) → Rat) (v : Value) : Prop := ∃ (g : Nat) (A : Option Addr) (n c : Nat) (b : RB) (l : List TB) (q : Rat), v = .pointer (some ⟨g, 0, none⟩) ∧ B ≤ g ∧ w.heap[g]? = some (.cells #[.slice A n c, .bool (ratNeg q), .slice b.A b.n b.c, .slice b.A2 b.n2 b.c2] 35 (0, 0)) ∧ EOk w m k f A n c b l q
theorem BoxE.below {w w' : World} {B m k : Nat} {f : (Int → Rat) → Rat} {v : Value} (h : BoxE w B m k f v) (hb : Below w.heap.size w w') : BoxE w' B m k f v := by
  obtain ⟨g, A, n, c, b, l, q, e, hg, hx, h⟩ := h
  exact ⟨g, A, n, c, b, l, q, e, hg, box_keep hx hb, h.below hb⟩
theorem store4_box {w : World} {g : Nat} {a b c d : Value} {t : TypeId} (h : w.heap[g]? = some (.cells #[a, b, c, d] t (0, 0))) (A : Option Addr) (n k : Nat) (s : Bool) (r : RB) : (store4 w g A n k s r).heap[g]? = some (.cells #[.slice A n k, .bool s, .slice r.A r.n r.c, .slice r.A2 r.n2 r.c2] t (0, 0)) :=
  set_blk (set_blk (set_blk (set_blk h 0 _) 1 _) 2 _) 3 _
/-- 'back := Scale(Int(-1), E)': calls 0 (slot 11) and 3 (slot 14), the field 1 (12) and its load 2 (13), the box 4 (5), the store 5. -/
structure NotI (w0 : World) (va vp : Value) (m k : Nat) (f0 : (Int → Rat) → Rat) (D : Nat → Bool) (f : Nat → Value) (w : World) : Prop where
  bel : Below w0.heap.size w0 w
  i0 : D 0 = true → NegV w (f 11)
  p1 : D 1 = true → f 12 = vp
  l2 : D 2 = true → f 13 = va
  c3 : D 3 = true → ExV w m k f0 (f 14)
  a4 : D 4 = true → NewE w w0.heap.size (f 5)
  b5 : D 5 = true → D 4 = true ∧ BoxE w w0.heap.size m k f0 (f 5)
section
variable {w0 w w' : World} {va vp : Value} {m k : Nat} {f0 : (Int → Rat) → Rat} {D : Nat → Bool} {f : Nat → Value}
theorem NotI.below (h : NotI w0 va vp m k f0 D f w) (hb : Below w.heap.size w w') : NotI w0 va vp m k f0 D f w' :=
  ⟨h.bel.trans (hb.mono h.bel.size), fun d => (h.i0 d).below hb, h.p1, h.l2, fun d => (h.c3 d).below hb, fun d => (h.a4 d).below hb, fun d => ⟨(h.b5 d).1, (h.b5 d).2.below hb⟩⟩
theorem not_start (f : Nat → Value) (w : World) : NotI w va vp m k f0 (fun _ => false) f w.drew :=
  ⟨below_drew2 (Below.refl _ _), nofun, nofun, nofun, nofun, nofun, nofun⟩
theorem NotI.set0 (h : NotI w0 va vp m k f0 D f w) (v : Value) (hv : NegV w v) : NotI w0 va vp m k f0 (fun j => j == 0 || D j) (upd f 11 v) w :=
  ⟨h.bel, fun _ => hv, fun d => h.p1 (dn (by decide) d), fun d => h.l2 (dn (by decide) d), fun d => h.c3 (dn (by decide) d), fun d => h.a4 (dn (by decide) d), fun d => ⟨by simp [(h.b5 (dn (by decide) d)).1], (h.b5 (dn (by decide) d)).2⟩⟩
theorem NotI.set1 (h : NotI w0 va vp m k f0 D f w) : NotI w0 va vp m k f0 (fun j => j == 1 || D j) (upd f 12 vp) w :=
  ⟨h.bel, fun d => h.i0 (dn (by decide) d), fun _ => rfl, fun d => h.l2 (dn (by decide) d), fun d => h.c3 (dn (by decide) d), fun d => h.a4 (dn (by decide) d), fun d => ⟨by simp [(h.b5 (dn (by decide) d)).1], (h.b5 (dn (by decide) d)).2⟩⟩
theorem NotI.set2 (h : NotI w0 va vp m k f0 D f w) : NotI w0 va vp m k f0 (fun j => j == 2 || D j) (upd f 13 va) w :=
  ⟨h.bel, fun d => h.i0 (dn (by decide) d), fun d => h.p1 (dn (by decide) d), fun _ => rfl, fun d => h.c3 (dn (by decide) d), fun d => h.a4 (dn (by decide) d), fun d => ⟨by simp [(h.b5 (dn (by decide) d)).1], (h.b5 (dn (by decide) d)).2⟩⟩
theorem NotI.set3 (h : NotI w0 va vp m k f0 D f w) (v : Value) (hv : ExV w m k f0 v) : NotI w0 va vp m k f0 (fun j => j == 3 || D j) (upd f 14 v) w :=
  ⟨h.bel, fun d => h.i0 (dn (by decide) d), fun d => h.p1 (dn (by decide) d), fun d => h.l2 (dn (by decide) d), fun _ => hv, fun d => h.a4 (dn (by decide) d), fun d => ⟨by simp [(h.b5 (dn (by decide) d)).1], (h.b5 (dn (by decide) d)).2⟩⟩
theorem NotI.set4 (h : NotI w0 va vp m k f0 D f w) (hD : D 4 = false) : NotI w0 va vp m k f0 (fun j => j == 4 || D j) (upd f 5 (.pointer (some ⟨w.heap.size, 0, none⟩))) (w.alloc (.cells #[.slice none 0 0, .bool false, .slice none 0 0, .slice none 0 0] 35)) := by
  have hb : Below w.heap.size w (w.alloc (.cells #[.slice none 0 0, .bool false, .slice none 0 0, .slice none 0 0] 35)) := (Below.refl _ _).alloc (Nat.le_refl _) _
  have k := h.below hb
  refine ⟨k.bel, fun d => k.i0 (dn (by decide) d), fun d => k.p1 (dn (by decide) d), fun d => k.l2 (dn (by decide) d), fun d => k.c3 (dn (by decide) d), fun d => ⟨w.heap.size, none, 0, 0, false, ⟨none, 0, 0, none, 0, 0⟩, rfl, h.bel.size, heap_alloc_new w _⟩, fun d => ?_⟩
  have := (k.b5 (dn (by decide) d)).1
  rw [hD] at this
  cases this
theorem NotI.set5 {g : Nat} {A A' : Option Addr} {n c n' c' : Nat} {s : Bool} {b b' : RB} {l : List TB} {q : Rat} (h : NotI w0 va vp m k f0 D f w) (h4 : D 4 = true) (hg : f 5 = .pointer (some ⟨g, 0, none⟩)) (hgl : w0.heap.size ≤ g) (hx : w.heap[g]? = some (.cells #[.slice A' n' c', .bool s, .slice b'.A b'.n b'.c, .slice b'.A2 b'.n2 b'.c2] 35 (0, 0))) (hv : EOk w m k f0 A n c b l q) : NotI w0 va vp m k f0 (fun j => j == 5 || D j) f (store4 w g A n c (ratNeg q) b) := by
  have hf := store4_fr w g A n c (ratNeg q) b
  have hty := typ_of hx (by decide)
  have hn := store4_box hx A n c (ratNeg q) b
  refine ⟨store4_bel h.bel hgl _ _ _ _ _, fun d => ?_, fun d => h.p1 (dn (by decide) d), fun d => h.l2 (dn (by decide) d), fun d => ?_, fun d => ⟨g, A, n, c, ratNeg q, b, hg, hgl, hn⟩, fun d => ⟨by simp [h4], g, A, n, c, b, l, q, hg, hgl, hn, hv.fr hf hty⟩⟩
  · obtain ⟨b0, e, h0⟩ := h.i0 (dn (by decide) d)
    exact ⟨b0, e, h0.frB hf hty⟩
  · obtain ⟨A0, n0, c0, b0, l0, q0, e, h0⟩ := h.c3 (dn (by decide) d)
    exact ⟨A0, n0, c0, b0, l0, q0, e, h0.fr hf hty⟩
end
end Go.Proofs.YtlbbbafehhdpnaaGreatDoor
