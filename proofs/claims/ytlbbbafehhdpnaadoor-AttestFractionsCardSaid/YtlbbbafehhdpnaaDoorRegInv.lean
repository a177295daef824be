/- A region that draws its order, by what each of its operations leaves behind: one case an operation, whatever the order. No program in sight. -/
import Derived.RegionTactic
namespace Go.Proofs.YtlbbbafehhdpnaaDoor
set_option linter.unusedVariables false
set_option linter.unusedSimpArgs false

/-- Each operation waits for earlier ones alone. -/
def upward (ops : Array Oper) : Bool := (List.range ops.size).all fun i => ((ops[i]?).map (·.after.all fun e => !Region.binds .any e || decide (e.on < i))).getD true
def puts (a : Act) (f : Nat → Value) : List Nat → Act
  | [] => a
  | s :: r => (puts a f r).put (some s) (f s)
/-- what is to be shown of each operation: D tells which have come up. -/
def StepsOk (P : Program) (ops : Array Oper) (Q : Exit → Act → World → Prop) (J : (Nat → Bool) → Act → World → Prop) : Nat → List Oper → Prop
  | _, [] => True
  | i, o :: rest => (∀ D a w, J D a w → D i = false → (∀ e ∈ o.after, Region.binds .any e = true → D e.on = true) → ∀ K : Act → World → Prop, (∀ a w, J (fun j => j == i || D j) a w → K a w) → if Region.wanted o (yielded ops a.tmps) = true then Oper.wp P o a w K Q else K (a.put o.dst undef) w) ∧ StepsOk P ops Q J (i + 1) rest

theorem stepsOk_at {P : Program} {ops : Array Oper} {Q : Exit → Act → World → Prop} {J : (Nat → Bool) → Act → World → Prop} : ∀ (l : List Oper) (k i : Nat) (o : Oper), StepsOk P ops Q J k l → l[i]? = some o →
    ∀ D a w, J D a w → D (k + i) = false → (∀ e ∈ o.after, Region.binds .any e = true → D e.on = true) → ∀ K : Act → World → Prop, (∀ a w, J (fun j => j == (k + i) || D j) a w → K a w) → if Region.wanted o (yielded ops a.tmps) = true then Oper.wp P o a w K Q else K (a.put o.dst undef) w
  | [], _, _, _, _, h => by simp at h
  | o' :: rest, k, 0, o, hs, h => by
    simp at h
    subst h
    exact hs.1
  | o' :: rest, k, i + 1, o, hs, h => by
    have := stepsOk_at rest (k + 1) i o hs.2 (by simpa using h)
    rw [show k + 1 + i = k + (i + 1) by omega] at this
    exact this

theorem upward_at {ops : Array Oper} (h : upward ops = true) {i : Nat} {o : Oper} (ho : ops[i]? = some o) : ∀ e ∈ o.after, Region.binds .any e = true → e.on < i := by
  intro e he hb
  unfold upward at h
  have hi : i < ops.size := (Array.getElem?_eq_some_iff.1 ho).1
  have h1 := List.all_eq_true.1 h i (List.mem_range.2 hi)
  rw [ho] at h1
  simp only [Option.map_some, Option.getD_some, Array.all_eq_true'] at h1
  have h2 := h1 e he
  rw [hb] at h2
  simpa using h2

theorem ready_nil {ops : Array Oper} (hu : upward ops = true) {listed : Array Bool} (hsz : listed.size = ops.size) (hr : Region.ready .any ops listed = []) : ∀ i, i < ops.size → listed.getD i false = true := by
  intro i
  induction i using Nat.strongRecOn with
  | ind i ih =>
    intro hi
    rcases hb : listed.getD i false with _ | _
    · have ho : ops[i]? = some ops[i] := Array.getElem?_eq_getElem hi
      have : i ∈ Region.ready .any ops listed := mem_ready.2 ⟨by
        rw [← hb]
        simp [Array.getD, hsz, hi], ops[i], ho, fun e he hbd => by
        have hlt := upward_at hu ho e he hbd
        exact ih e.on hlt (by omega)⟩
      rw [hr] at this
      cases this
    · rfl

def unl (listed : Array Bool) : Nat := (listed.toList.filter (fun b => !b)).length
theorem unl_set : ∀ (l : List Bool) (i : Nat), l[i]? = some false → ((l.set i true).filter (fun b => !b)).length + 1 = (l.filter (fun b => !b)).length
  | [], i, h => by simp at h
  | b :: l, 0, h => by
    simp at h
    subst h
    simp
  | b :: l, i + 1, h => by
    have := unl_set l i (by simpa using h)
    cases b <;> simp [List.set_cons_succ] at this ⊢ <;> omega

theorem wpAny_inv {P : Program} {ops : Array Oper} {Q : Exit → Act → World → Prop} (hu : upward ops = true) {J : (Nat → Bool) → Act → World → Prop} (hs : StepsOk P ops Q J 0 ops.toList)
    (hend : ∀ D a w, J D a w → (∀ i, i < ops.size → D i = true) → Q .normal a w) :
    ∀ (fuel : Nat) (listed : Array Bool) (a : Act) (w : World), listed.size = ops.size → unl listed ≤ fuel → J (fun j => listed.getD j false) a w → wpAny P .any ops Q fuel listed a w := by
  intro fuel
  induction fuel with
  | zero =>
    intro listed a w hsz hf hJ
    have hr : Region.ready .any ops listed = [] := by
      cases hr : Region.ready .any ops listed with
      | nil => rfl
      | cons i rs =>
        have hi : i ∈ Region.ready .any ops listed := by rw [hr]; exact List.mem_cons_self
        obtain ⟨h1, o, ho, _⟩ := mem_ready.1 hi
        have hlt : i < ops.size := (Array.getElem?_eq_some_iff.1 ho).1
        have h2 : listed.toList[i]? = some false := by
          rw [Array.getElem?_toList, Array.getElem?_eq_getElem (by omega)]
          simp [Array.getD, hsz, hlt] at h1
          rw [h1]
        have := unl_set listed.toList i h2
        unfold unl at hf
        omega
    exact ⟨hr, hend _ _ _ hJ (ready_nil hu hsz hr)⟩
  | succ fuel ih =>
    intro listed a w hsz hf hJ
    refine ⟨fun hr => hend _ _ _ hJ (ready_nil hu hsz hr), fun i hi => ?_⟩
    obtain ⟨h1, o, ho, hall⟩ := mem_ready.1 hi
    have hlt : i < ops.size := (Array.getElem?_eq_some_iff.1 ho).1
    have hli : listed[i]? = some false := by
      rw [Array.getElem?_eq_getElem (by omega)]
      simp [Array.getD, hsz, hlt] at h1
      rw [h1]
    refine wpOp_step ho fun K hK => ?_
    have hstep := stepsOk_at ops.toList 0 i o hs (by simpa using ho) (fun j => listed.getD j false) a w hJ (by simp [Array.getD, hli, hsz, hlt] at h1 ⊢; exact h1) hall K
    rw [Nat.zero_add] at hstep
    refine hstep fun a' w' hJ' => hK a' w' (ih _ a' w' (by simpa using hsz) ?_ ?_)
    · have := unl_set listed.toList i (by simpa using hli)
      unfold unl at hf ⊢
      rw [Array.toList_setIfInBounds]
      omega
    · have : (fun j => (listed.setIfInBounds i true).getD j false) = fun j => j == i || listed.getD j false := by
        funext j
        rw [Array.getD_eq_getD_getElem?, Array.getD_eq_getD_getElem?, Array.getElem?_setIfInBounds]
        by_cases hji : i = j
        · subst hji
          simp [hsz, hlt]
        · rw [if_neg hji]
          have : (j == i) = false := by simp; omega
          rw [this, Bool.false_or]
      rw [this]
      exact hJ'

theorem puts_self (a : Act) : ∀ l : List Nat, puts a (fun s => a.tmps.getD s undef) l = a
  | [] => rfl
  | s :: r => by
    unfold puts
    rw [puts_self a r]
    unfold Act.put
    obtain ⟨t, d⟩ := a
    simp only
    congr 1
    apply Array.ext_getElem?
    intro j
    rw [Array.getElem?_setIfInBounds]
    by_cases hj : s = j
    · subst hj
      by_cases hlt : s < t.size
      · simp [Array.getD, hlt]
      · simp [hlt]
    · rw [if_neg hj]

/-- The region, from what each operation leaves: I tells, of the operations that have come up (D), what their slots hold (f) in the world at hand. -/
theorem region_inv {P : Program} {id : Nat} {l : List Oper} {Q : Exit → Act → World → Prop} {a : Act} {w : World} (hm : P.follows .mixedOrders = true) (hu : upward l.toArray = true) (slots : List Nat) (I : (Nat → Bool) → (Nat → Value) → World → Prop)
    (h0 : ∀ f, I (fun _ => false) f w.drew)
    (hs : StepsOk P l.toArray Q (fun D a' w' => ∃ f, a' = puts a f slots ∧ I D f w') 0 l)
    (hend : ∀ D f w', I D f w' → (∀ i, i < l.length → D i = true) → Q .normal (puts a f slots) w') : (Code.region id l.toArray true).wp P Q a w := by
  refine wp_region_any hm (wpAny_inv (J := fun D a' w' => ∃ f, a' = puts a f slots ∧ I D f w') hu hs (fun D a' w' ⟨f, e, hI⟩ hD => by subst e; exact hend D f w' hI (by simpa using hD)) _ _ _ _ (by simp) ?_ ⟨_, (puts_self a slots).symm, ?_⟩)
  · unfold unl
    rw [Array.toList_replicate]
    refine Nat.le_trans (List.length_filter_le _ _) ?_
    simp
  · have : (fun j => (Array.replicate l.toArray.size false).getD j false) = fun _ => false := by
      funext j
      simp [Array.getD]
    rw [this]
    exact h0 _
end Go.Proofs.YtlbbbafehhdpnaaDoor
