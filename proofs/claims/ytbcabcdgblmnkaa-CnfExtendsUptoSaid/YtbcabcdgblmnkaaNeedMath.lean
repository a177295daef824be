/- What a node stands on, by going down the list of nodes. No program in sight. -/
import Derived.Test.YtbcabcdgblmnkaaNodeEv
import Derived.Test.YtbcabcdgblmnkaaClOps
namespace Go.Proofs.Ytbcabcdgblmnkaa
open Go.RowKit
set_option linter.unusedVariables false
set_option linter.unusedSimpArgs false

/-- one step of looking for what a node stands on. -/
def stepNeed (ns : List Nd) (r : List Bool) (k : Nat) : List Bool :=
  if r.getD k false = true ∧ 4 ≤ (nd ns k).k then (if (nd ns k).k = 4 then r.set (nd ns k).a.toNat true else (r.set (nd ns k).a.toNat true).set (nd ns k).b.toNat true) else r
def downNeed (ns : List Nd) : Nat → List Bool → List Bool
  | 0, r => r
  | k + 1, r => downNeed ns k (stepNeed ns r k)
theorem stepNeed_length (ns : List Nd) (r : List Bool) (k : Nat) : (stepNeed ns r k).length = r.length := by
  unfold stepNeed
  split
  · split <;> simp
  · rfl
theorem downNeed_length (ns : List Nd) (k : Nat) (r : List Bool) : (downNeed ns k r).length = r.length := by
  induction k generalizing r with
  | zero => rfl
  | succ k ih => rw [downNeed, ih, stepNeed_length]

/-- a node stands on another. -/
inductive Std (ns : List Nd) : Nat → Nat → Prop
  | refl (r : Nat) : Std ns r r
  | a {r k : Nat} : 4 ≤ (nd ns r).k → Std ns (nd ns r).a.toNat k → Std ns r k
  | b {r k : Nat} : 5 ≤ (nd ns r).k → Std ns (nd ns r).b.toNat k → Std ns r k
theorem Std.trans {ns : List Nd} {i j k : Nat} (h : Std ns i j) (h' : Std ns j k) : Std ns i k := by
  induction h with
  | refl => exact h'
  | a hk _ ih => exact .a hk (ih h')
  | b hk _ ih => exact .b hk (ih h')
theorem good_kids {ns : List Nd} (g : Good ns) {i : Nat} (hi : i < ns.length) (hk : 4 ≤ (nd ns i).k) : 2 ≤ i ∧ 2 ≤ (nd ns i).a.toNat ∧ (nd ns i).a.toNat < i ∧ ((nd ns i).k ≠ 4 → ((nd ns i).k = 5 ∨ (nd ns i).k = 6) ∧ 2 ≤ (nd ns i).b.toNat ∧ (nd ns i).b.toNat < i) ∧ ((nd ns i).k = 4 → (nd ns i).b = 0 ∧ (nd ns (nd ns i).a.toNat).k ≠ 4) := by
  have h2 : 2 ≤ i := by
    have h0 := g.n0
    have h1 := g.n1
    rcases Nat.lt_or_ge i 2 with h | h
    · have : i = 0 ∨ i = 1 := by omega
      rcases this with rfl | rfl
      · rw [h0] at hk; simp at hk
      · rw [h1] at hk; simp at hk
    · exact h
  rcases g.parts i h2 hi with h | h | h
  · omega
  · exact ⟨h2, by omega, by omega, fun e => by omega, fun _ => ⟨h.2.2.2.1, h.2.2.2.2⟩⟩
  · exact ⟨h2, by omega, by omega, fun _ => ⟨h.1, by omega, by omega⟩, fun e => by omega⟩
theorem Std.le {ns : List Nd} (g : Good ns) {i k : Nat} (h : Std ns i k) (hi : i < ns.length) : k ≤ i ∧ (2 ≤ i → 2 ≤ k) := by
  induction h with
  | refl => exact ⟨Nat.le_refl _, fun h => h⟩
  | a hk _ ih =>
    obtain ⟨h1, h2, h3, _⟩ := good_kids g hi hk
    have := ih (by omega)
    omega
  | b hk _ ih =>
    obtain ⟨h1, h2, h3, h4, _⟩ := good_kids g hi (by omega)
    have h5 := h4 (by omega)
    have := ih (by omega)
    omega

theorem getD_set_eq (r : List Bool) (a j : Nat) (ha : a < r.length) : (r.set a true).getD j false = (decide (a = j) || r.getD j false) := by
  rw [List.getD_eq_getElem?_getD, List.getD_eq_getElem?_getD]
  by_cases h : a = j
  · subst h; simp [ha]
  · rw [List.getElem?_set_ne h]; simp [h]
theorem stepNeed_get {ns : List Nd} {r : List Bool} {k : Nat} (g : Good ns) (hl : r.length = ns.length) (hk : k < ns.length) (j : Nat) :
    (stepNeed ns r k).getD j false = (r.getD j false || (r.getD k false && (decide (4 ≤ (nd ns k).k) && decide ((nd ns k).a.toNat = j) || decide (5 ≤ (nd ns k).k) && decide ((nd ns k).b.toNat = j)))) := by
  unfold stepNeed
  cases hr : r.getD k false with
  | false => simp
  | true =>
    by_cases h4 : 4 ≤ (nd ns k).k
    · obtain ⟨q1, q2, q3, q4, _⟩ := good_kids g hk h4
      rw [if_pos ⟨rfl, h4⟩]
      by_cases e4 : (nd ns k).k = 4
      · rw [if_pos e4, getD_set_eq _ _ _ (by omega), Bool.or_comm]
        simp [e4]
      · obtain ⟨_, q5, q6⟩ := q4 e4
        have h5 : 5 ≤ (nd ns k).k := by omega
        rw [if_neg e4, getD_set_eq _ _ _ (by rw [List.length_set]; omega), getD_set_eq _ _ _ (by omega), decide_eq_true h4, decide_eq_true h5]
        generalize r.getD j false = x
        generalize decide ((nd ns k).a.toNat = j) = y
        generalize decide ((nd ns k).b.toNat = j) = z
        cases x <;> cases y <;> cases z <;> rfl
    · have h5 : ¬ 5 ≤ (nd ns k).k := by omega
      rw [if_neg (fun h => h4 h.2), decide_eq_false h4, decide_eq_false h5]
      simp
structure NeedQ (ns : List Nd) (root m : Nat) (r : List Bool) : Prop where
  len : r.length = ns.length
  top : r.getD root false = true
  std : ∀ j, r.getD j false = true → Std ns root j
  kids : ∀ j, m ≤ j → j ≤ root → r.getD j false = true → 4 ≤ (nd ns j).k → r.getD (nd ns j).a.toNat false = true ∧ (5 ≤ (nd ns j).k → r.getD (nd ns j).b.toNat false = true)
theorem NeedQ.step {ns : List Nd} {root m : Nat} {r : List Bool} (h : NeedQ ns root (m + 1) r) (g : Good ns) (hr : root < ns.length) (hm : m ≤ root) : NeedQ ns root m (stepNeed ns r m) := by
  have hg := fun j => stepNeed_get g h.len (show m < ns.length by omega) j
  have mono : ∀ j, r.getD j false = true → (stepNeed ns r m).getD j false = true := fun j hj => by rw [hg, hj, Bool.true_or]
  refine ⟨by rw [stepNeed_length, h.len], mono _ h.top, fun j hj => ?_, fun j h1 h2 h3 h4 => ?_⟩
  · rw [hg, Bool.or_eq_true, Bool.and_eq_true, Bool.or_eq_true, Bool.and_eq_true, Bool.and_eq_true] at hj
    simp only [decide_eq_true_eq] at hj
    rcases hj with e | ⟨e, ⟨e1, rfl⟩ | ⟨e1, rfl⟩⟩
    · exact h.std j e
    · exact (h.std m e).trans (.a e1 (.refl _))
    · exact (h.std m e).trans (.b e1 (.refl _))
  · have h3' : r.getD j false = true := by
      rw [hg, Bool.or_eq_true, Bool.and_eq_true, Bool.or_eq_true, Bool.and_eq_true, Bool.and_eq_true] at h3
      simp only [decide_eq_true_eq] at h3
      rcases h3 with e | ⟨e, ⟨e1, e2⟩ | ⟨e1, e2⟩⟩
      · exact e
      · have := good_kids g (show m < ns.length by omega) e1
        omega
      · have := good_kids g (show m < ns.length by omega) (show 4 ≤ (nd ns m).k by omega)
        have := this.2.2.2.1 (by omega)
        omega
    by_cases hj : m = j
    · subst hj
      rw [hg, hg, h3', decide_eq_true h4]
      simp
      intro h5
      simp [h5]
    · obtain ⟨q1, q2⟩ := h.kids j (by omega) h2 h3' h4
      exact ⟨mono _ q1, fun h5 => mono _ (q2 h5)⟩
theorem NeedQ.down {ns : List Nd} {root : Nat} (g : Good ns) (hr : root < ns.length) : ∀ m r, m ≤ root + 1 → NeedQ ns root m r → NeedQ ns root 0 (downNeed ns m r)
  | 0, r, _, h => h
  | m + 1, r, hm, h => by rw [downNeed]; exact NeedQ.down g hr m _ (by omega) (h.step g hr (by omega))
def needAll (ns : List Nd) (root : Nat) : List Bool := downNeed ns (root + 1) ((List.replicate ns.length false).set root true)
theorem rep_getD (n j : Nat) : (List.replicate n false).getD j false = false := by
  rw [List.getD_eq_getElem?_getD, List.getElem?_replicate]
  split <;> rfl
theorem needAll_q {ns : List Nd} {root : Nat} (g : Good ns) (hr : root < ns.length) : NeedQ ns root 0 (needAll ns root) := by
  refine NeedQ.down g hr _ _ (Nat.le_refl _) ⟨by simp, ?_, fun j hj => ?_, fun j h1 h2 => by omega⟩
  · rw [getD_set_eq _ _ _ (by simpa using hr)]; simp
  · rw [getD_set_eq _ _ _ (by simpa using hr), rep_getD] at hj
    simp at hj
    subst hj
    exact .refl _
theorem needAll_iff {ns : List Nd} {root : Nat} (g : Good ns) (hr : root < ns.length) (k : Nat) : (needAll ns root).getD k false = true ↔ Std ns root k := by
  have q := needAll_q g hr
  refine ⟨q.std k, fun h => ?_⟩
  have key : ∀ i k, Std ns i k → i ≤ root → (needAll ns root).getD i false = true → (needAll ns root).getD k false = true := by
    intro i k h
    induction h with
    | refl => exact fun _ h => h
    | a hk _ ih =>
      intro hi hn
      have := good_kids g (by omega) hk
      exact ih (by omega) (q.kids _ (Nat.zero_le _) hi hn hk).1
    | @b r k hk _ ih =>
      intro hi hn
      have := (good_kids g (i := r) (by omega) (by omega)).2.2.2.1 (by omega)
      exact ih (by omega) ((q.kids _ (Nat.zero_le _) hi hn (by omega)).2 hk)
  exact key root k h (Nat.le_refl _) q.top
theorem needAll_length {ns : List Nd} {root : Nat} : (needAll ns root).length = ns.length := by rw [needAll, downNeed_length]; simp

/-- the parts of a root: the nodes And and Or that it stands on, rising. -/
def partsN (ns : List Nd) (root : Nat) : List Nat := (List.range ns.length).filter fun k => (needAll ns root).getD k false && decide (5 ≤ (nd ns k).k)
theorem partsN_mem {ns : List Nd} {root : Nat} (g : Good ns) (hr : root < ns.length) (k : Nat) : k ∈ partsN ns root ↔ Std ns root k ∧ 5 ≤ (nd ns k).k := by
  rw [partsN, List.mem_filter, List.mem_range, Bool.and_eq_true, needAll_iff g hr, decide_eq_true_eq]
  exact ⟨fun h => h.2, fun h => ⟨by have := (h.1.le g hr).1; omega, h⟩⟩
open Classical in
/-- does the root stand on node k? -/
noncomputable def stD (ns : List Nd) (r k : Nat) : Bool := decide (Std ns r k)
theorem stD_eq {ns : List Nd} (g : Good ns) {r k : Nat} (hr : r < ns.length) : stD ns r k = (decide (r = k) || (decide (4 ≤ (nd ns r).k) && (decide (k < r) && stD ns (nd ns r).a.toNat k) || decide (5 ≤ (nd ns r).k) && (decide (k < r) && stD ns (nd ns r).b.toNat k))) := by
  unfold stD
  rw [Bool.eq_iff_iff]
  simp only [Bool.or_eq_true, Bool.and_eq_true, decide_eq_true_eq]
  constructor
  · intro h
    cases h with
    | refl => exact .inl rfl
    | a hk h =>
      have := good_kids g hr hk
      have := h.le g (by omega)
      exact .inr (.inl ⟨hk, by omega, h⟩)
    | b hk h =>
      have := (good_kids g hr (by omega)).2.2.2.1 (by omega)
      have := h.le g (by omega)
      exact .inr (.inr ⟨hk, by omega, h⟩)
  · rintro (rfl | ⟨h1, _, h⟩ | ⟨h1, _, h⟩)
    · exact .refl _
    · exact .a h1 h
    · exact .b h1 h
theorem stD_need {ns : List Nd} {root : Nat} (g : Good ns) (hr : root < ns.length) (k : Nat) : stD ns root k = (needAll ns root).getD k false := by
  rw [Bool.eq_iff_iff, needAll_iff g hr]
  simp [stD]
end Go.Proofs.Ytbcabcdgblmnkaa

namespace Go.Proofs.Ytbcabcdgblmnkaa
open Go.RowKit
set_option linter.unusedVariables false
set_option linter.unusedSimpArgs false

/-- the number of a part, from 1; 0: it is none. -/
def posN (ps : List Nat) (k : Nat) : Int := match ps.findIdx? (fun p => p == k) with | some i => (i : Int) + 1 | none => 0
def lit1 (ns : List Nd) (ps : List Nat) (k : Nat) : Int := if (nd ns k).k = 3 then (ps.length : Int) + 1 + (nd ns k).a else posN ps k
/-- a node's literal. -/
def litN (ns : List Nd) (ps : List Nat) (k : Nat) : Int := if (nd ns k).k = 4 then -lit1 ns ps (nd ns k).a.toNat else lit1 ns ps k
/-- the three clauses of a part. -/
def threeN (ns : List Nd) (ps : List Nat) (k : Nat) : List (List Int) :=
  let d := litN ns ps k; let a := litN ns ps (nd ns k).a.toNat; let b := litN ns ps (nd ns k).b.toNat
  if (nd ns k).k = 6 then [[d, -a], [d, -b], [-d, a, b]] else [[-d, a], [-d, b], [d, -a, -b]]
def lastN (ns : List Nd) (ps : List Nat) (root : Nat) : List (List Int) := if root = 0 then [[]] else if root = 1 then [] else [[litN ns ps root]]
def rawN (ns : List Nd) (root : Nat) : List (List Int) := (partsN ns root).flatMap (threeN ns (partsN ns root)) ++ lastN ns (partsN ns root) root
/-- the truths of all variables. -/
def truthsN (ns : List Nd) (root : Nat) (vals : List Bool) : List Bool := (partsN ns root).map (ev ns vals) ++ vals

theorem posN_some {ps : List Nat} {i k : Nat} (h : ps[i]? = some k) (hn : ps.Nodup) : posN ps k = (i : Int) + 1 := by
  unfold posN
  obtain ⟨hi, e⟩ := List.getElem?_eq_some_iff.1 h
  have : ps.findIdx? (fun p => p == k) = some i := by
    rw [List.findIdx?_eq_some_iff_getElem]
    refine ⟨hi, by simp [e], fun j hj => ?_⟩
    have hne := (List.nodup_iff_pairwise_ne.1 hn)
    have := List.pairwise_iff_getElem.1 hne j i (by omega) hi hj
    simp
    rw [← e]
    exact this
  rw [this]
theorem posN_none {ps : List Nat} {k : Nat} (h : k ∉ ps) : posN ps k = 0 := by
  unfold posN
  have : ps.findIdx? (fun p => p == k) = none := by
    rw [List.findIdx?_eq_none_iff]
    intro x hx
    simp
    rintro rfl
    exact h hx
  rw [this]
theorem partsN_nodup (ns : List Nd) (root : Nat) : (partsN ns root).Nodup := List.Nodup.sublist List.filter_sublist List.nodup_range
theorem partsN_length (ns : List Nd) (root : Nat) : (partsN ns root).length ≤ ns.length := by
  have := List.length_filter_le (fun k => (needAll ns root).getD k false && decide (5 ≤ (nd ns k).k)) (List.range ns.length)
  simpa [partsN] using this

/-- all atoms of a table are below n. -/
def AtomsLt (ns : List Nd) (n : Nat) : Prop := ∀ i, i < ns.length → (nd ns i).k = 3 → 0 ≤ (nd ns i).a ∧ (nd ns i).a < n

theorem hold_neg (t : List Bool) (l : Int) (h : l ≠ 0) : holdL t (-l) = !(holdL t l) := by
  unfold holdL
  rw [Int.natAbs_neg]
  generalize (if l.natAbs ≤ t.length then t.getD (l.natAbs - 1) false else false) = b
  by_cases hl : 0 < l
  · rw [decide_eq_true hl, decide_eq_false (show ¬ 0 < -l by omega)]; cases b <;> rfl
  · rw [decide_eq_false hl, decide_eq_true (show 0 < -l by omega)]; cases b <;> rfl
theorem hold_pos (t : List Bool) (i : Nat) (hi : i < t.length) : holdL t ((i : Int) + 1) = t.getD i false := by
  unfold holdL
  have e : ((i : Int) + 1).natAbs = i + 1 := by omega
  rw [e, if_pos (by omega), decide_eq_true (by omega)]
  simp

section
variable {ns : List Nd} {root : Nat} {vals : List Bool} {t : List Bool}
/-- what stands under a root, with truths in a row t: parts first, the atoms behind them. -/
structure CnOk (ns : List Nd) (root : Nat) (vals t : List Bool) : Prop where
  good : Good ns
  rt : root < ns.length
  atoms : AtomsLt ns vals.length
  len : t.length = (partsN ns root).length + vals.length
  back : ∀ j, j < vals.length → t.getD ((partsN ns root).length + j) false = vals.getD j false
theorem lit1_ne (h : CnOk ns root vals t) {k : Nat} (hk : Std ns root k) (h2 : 2 ≤ k) (h4 : (nd ns k).k ≠ 4) : 1 ≤ lit1 ns (partsN ns root) k ∧ lit1 ns (partsN ns root) k ≤ (partsN ns root).length + vals.length ∧ ((nd ns k).k = 3 ∨ ∃ i : Nat, (partsN ns root)[i]? = some k) := by
  have hkl := (hk.le h.good h.rt).1
  have hkn : k < ns.length := Nat.lt_of_le_of_lt hkl h.rt
  unfold lit1
  by_cases h3 : (nd ns k).k = 3
  · rw [if_pos h3]
    obtain ⟨q1, q2⟩ := h.atoms k hkn h3
    exact ⟨by omega, by omega, .inl h3⟩
  · rw [if_neg h3]
    have h5 : 5 ≤ (nd ns k).k := by
      rcases h.good.parts k h2 hkn with q | q | q <;> omega
    obtain ⟨i, hi, e⟩ := List.getElem_of_mem ((partsN_mem h.good h.rt k).2 ⟨hk, h5⟩)
    have hi' : (partsN ns root)[i]? = some k := by rw [List.getElem?_eq_getElem hi, e]
    rw [posN_some hi' (partsN_nodup _ _)]
    exact ⟨by omega, by omega, .inr ⟨i, hi'⟩⟩
theorem litN_ne (h : CnOk ns root vals t) {k : Nat} (hk : Std ns root k) (h2 : 2 ≤ k) : litN ns (partsN ns root) k ≠ 0 ∧ (litN ns (partsN ns root) k).natAbs ≤ (partsN ns root).length + vals.length := by
  have hkl := (hk.le h.good h.rt).1
  have hkn : k < ns.length := Nat.lt_of_le_of_lt hkl h.rt
  unfold litN
  by_cases h4 : (nd ns k).k = 4
  · rw [if_pos h4]
    obtain ⟨q1, q2, q3, _, q5⟩ := good_kids h.good hkn (by omega)
    have := lit1_ne h (hk.trans (.a (by omega) (.refl _))) q2 (q5 h4).2
    omega
  · rw [if_neg h4]
    have := lit1_ne h hk h2 h4
    omega
/-- a row gives node k its truth. -/
def Right (ns : List Nd) (root : Nat) (vals t : List Bool) (k : Nat) : Prop := holdL t (litN ns (partsN ns root) k) = ev ns vals k
theorem right_atom (h : CnOk ns root vals t) {k : Nat} (hk : Std ns root k) (h3 : (nd ns k).k = 3) : Right ns root vals t k := by
  have hkn : k < ns.length := Nat.lt_of_le_of_lt (hk.le h.good h.rt).1 h.rt
  obtain ⟨q1, q2⟩ := h.atoms k hkn h3
  unfold Right litN lit1
  rw [if_neg (by omega), if_pos h3, h.good.ev vals k hkn, ev1, if_neg (by omega), if_pos h3]
  have e : (((partsN ns root).length : Int) + 1 + (nd ns k).a) = (((partsN ns root).length + (nd ns k).a.toNat : Nat) : Int) + 1 := by omega
  rw [e, hold_pos t _ (by rw [h.len]; omega), h.back _ (by omega)]
theorem right_not (h : CnOk ns root vals t) {k : Nat} (hk : Std ns root k) (h4 : (nd ns k).k = 4) (ha : Right ns root vals t (nd ns k).a.toNat) : Right ns root vals t k := by
  have hkn : k < ns.length := Nat.lt_of_le_of_lt (hk.le h.good h.rt).1 h.rt
  obtain ⟨q1, q2, q3, _, q5⟩ := good_kids h.good hkn (by omega)
  have hka : Std ns root (nd ns k).a.toNat := hk.trans (.a (by omega) (.refl _))
  have hl := lit1_ne h hka q2 (q5 h4).2
  unfold Right litN at ha ⊢
  rw [if_neg (q5 h4).2] at ha
  rw [if_pos h4, hold_neg _ _ (by omega), ha, h.good.ev vals k hkn, ev1, if_neg (by omega), if_neg (by omega), if_pos h4]
theorem any2 (t : List Bool) (a b : Int) : [a, b].any (holdL t) = (holdL t a || holdL t b) := by simp
theorem any3 (t : List Bool) (a b c : Int) : [a, b, c].any (holdL t) = (holdL t a || (holdL t b || holdL t c)) := by simp
/-- the three clauses hold just where the part's truth is what its kind says. -/
theorem three_hold (h : CnOk ns root vals t) {k : Nat} (hk : Std ns root k) (h5 : 5 ≤ (nd ns k).k) : (threeN ns (partsN ns root) k).all (fun c => c.any (holdL t)) =
    (holdL t (litN ns (partsN ns root) k) == (if (nd ns k).k = 6 then holdL t (litN ns (partsN ns root) (nd ns k).a.toNat) || holdL t (litN ns (partsN ns root) (nd ns k).b.toNat) else holdL t (litN ns (partsN ns root) (nd ns k).a.toNat) && holdL t (litN ns (partsN ns root) (nd ns k).b.toNat))) := by
  have hkn : k < ns.length := Nat.lt_of_le_of_lt (hk.le h.good h.rt).1 h.rt
  obtain ⟨q1, q2, q3, q4, _⟩ := good_kids h.good hkn (by omega)
  obtain ⟨q6, q7, q8⟩ := q4 (by omega)
  have hd := (litN_ne h hk q1).1
  have ha := (litN_ne h (hk.trans (.a (by omega) (.refl _))) q2).1
  have hb := (litN_ne h (hk.trans (.b (by omega) (.refl _))) q7).1
  unfold threeN
  simp only
  generalize litN ns (partsN ns root) k = d at *
  generalize litN ns (partsN ns root) (nd ns k).a.toNat = a at *
  generalize litN ns (partsN ns root) (nd ns k).b.toNat = b at *
  have nd' := hold_neg t d hd
  have na := hold_neg t a ha
  have nb := hold_neg t b hb
  by_cases h6 : (nd ns k).k = 6
  · rw [if_pos h6, if_pos h6]
    simp only [List.all_cons, List.all_nil, any2, any3, nd', na, nb]
    generalize holdL t d = x
    generalize holdL t a = y
    generalize holdL t b = z
    cases x <;> cases y <;> cases z <;> rfl
  · rw [if_neg h6, if_neg h6]
    simp only [List.all_cons, List.all_nil, any2, any3, nd', na, nb]
    generalize holdL t d = x
    generalize holdL t a = y
    generalize holdL t b = z
    cases x <;> cases y <;> cases z <;> rfl
theorem ev_pair (h : CnOk ns root vals t) {k : Nat} (hk : Std ns root k) (h5 : 5 ≤ (nd ns k).k) : ev ns vals k = (if (nd ns k).k = 6 then ev ns vals (nd ns k).a.toNat || ev ns vals (nd ns k).b.toNat else ev ns vals (nd ns k).a.toNat && ev ns vals (nd ns k).b.toNat) := by
  have hkn : k < ns.length := Nat.lt_of_le_of_lt (hk.le h.good h.rt).1 h.rt
  obtain ⟨q1, q2, q3, q4, _⟩ := good_kids h.good hkn (by omega)
  obtain ⟨q6, _, _⟩ := q4 (by omega)
  rw [h.good.ev vals k hkn, ev1, if_neg (by omega), if_neg (by omega), if_neg (by omega)]
  rcases q6 with q6 | q6
  · rw [if_pos q6, if_neg (by omega)]
  · rw [if_neg (by omega), if_pos q6, if_pos q6]
/-- a row that gives every part its truth gives every node its truth. -/
theorem right_all (h : CnOk ns root vals t) (hp : ∀ k, Std ns root k → 5 ≤ (nd ns k).k → (∀ j, j < k → 2 ≤ j → Std ns root j → Right ns root vals t j) → Right ns root vals t k) : ∀ k, Std ns root k → 2 ≤ k → Right ns root vals t k := by
  intro k
  induction k using Nat.strongRecOn with
  | ind k ih =>
    intro hk h2
    have hkn : k < ns.length := Nat.lt_of_le_of_lt (hk.le h.good h.rt).1 h.rt
    by_cases h3 : (nd ns k).k = 3
    · exact right_atom h hk h3
    by_cases h4 : (nd ns k).k = 4
    · obtain ⟨_, q2, q3, _⟩ := good_kids h.good hkn (by omega)
      exact right_not h hk h4 (ih _ q3 (hk.trans (.a (by omega) (.refl _))) q2)
    · have h5 : 5 ≤ (nd ns k).k := by
        rcases h.good.parts k h2 hkn with q | q | q <;> omega
      exact hp k hk h5 fun j hj h2' hj' => ih j hj hj' h2'
theorem last_hold (h : CnOk ns root vals t) (hr : ∀ k, Std ns root k → 2 ≤ k → Right ns root vals t k) : (lastN ns (partsN ns root) root).all (fun c => c.any (holdL t)) = ev ns vals root := by
  unfold lastN
  by_cases h0 : root = 0
  · subst h0; rw [if_pos rfl, h.good.ev0]; rfl
  by_cases h1 : root = 1
  · subst h1; rw [if_neg h0, if_pos rfl, h.good.ev1_]; rfl
  · rw [if_neg h0, if_neg h1]
    have := hr root (.refl _) (by omega)
    unfold Right at this
    simp [this]
/-- where all clauses hold, the root is true. -/
theorem clauses_mean (h : CnOk ns root vals t) (hc : (rawN ns root).all (fun c => c.any (holdL t)) = true) : ev ns vals root = true := by
  rw [rawN, List.all_append, Bool.and_eq_true] at hc
  rw [← last_hold h ?_]
  · exact hc.2
  · refine right_all h fun k hk h5 ih => ?_
    have hkn : k < ns.length := Nat.lt_of_le_of_lt (hk.le h.good h.rt).1 h.rt
    obtain ⟨q1, q2, q3, q4, _⟩ := good_kids h.good hkn (by omega)
    obtain ⟨_, q7, q8⟩ := q4 (by omega)
    have h3 : (threeN ns (partsN ns root) k).all (fun c => c.any (holdL t)) = true := by
      rw [List.all_eq_true] at hc ⊢
      exact fun c hcm => hc.1 c (List.mem_flatMap.2 ⟨k, (partsN_mem h.good h.rt k).2 ⟨hk, h5⟩, hcm⟩)
    rw [three_hold h hk h5, beq_iff_eq] at h3
    unfold Right
    rw [h3, ev_pair h hk h5, ih _ q3 q2 (hk.trans (.a (by omega) (.refl _))), ih _ q8 q7 (hk.trans (.b (by omega) (.refl _)))]
/-- the row of the truths themselves. -/
theorem truths_ok (g : Good ns) (hr : root < ns.length) (ha : AtomsLt ns vals.length) : CnOk ns root vals (truthsN ns root vals) := by
  refine ⟨g, hr, ha, by simp [truthsN], fun j hj => ?_⟩
  rw [truthsN, List.getD_eq_getElem?_getD, List.getD_eq_getElem?_getD, List.getElem?_append_right (by simp), List.length_map, Nat.add_sub_cancel_left]
theorem truths_right (g : Good ns) (hr : root < ns.length) (ha : AtomsLt ns vals.length) : ∀ k, Std ns root k → 2 ≤ k → Right ns root vals (truthsN ns root vals) k := by
  have h := truths_ok g hr ha
  refine right_all h fun k hk h5 ih => ?_
  obtain ⟨i, hi, e⟩ := List.getElem_of_mem ((partsN_mem g hr k).2 ⟨hk, h5⟩)
  have hi' : (partsN ns root)[i]? = some k := by rw [List.getElem?_eq_getElem hi, e]
  unfold Right litN lit1
  rw [if_neg (by omega), if_neg (by omega), posN_some hi' (partsN_nodup _ _), hold_pos _ _ (by rw [h.len]; omega), truthsN, List.getD_eq_getElem?_getD, List.getElem?_append_left (by simpa using hi), List.getElem?_map, hi']
  rfl
theorem truths_three (g : Good ns) (hr : root < ns.length) (ha : AtomsLt ns vals.length) (k : Nat) (hk : k ∈ partsN ns root) : (threeN ns (partsN ns root) k).all (fun c => c.any (holdL (truthsN ns root vals))) = true := by
  have h := truths_ok g hr ha
  have hR := truths_right g hr ha
  obtain ⟨hk, h5⟩ := (partsN_mem g hr k).1 hk
  have hkn : k < ns.length := Nat.lt_of_le_of_lt (hk.le g hr).1 hr
  obtain ⟨q1, q2, q3, q4, _⟩ := good_kids g hkn (by omega)
  obtain ⟨_, q7, q8⟩ := q4 (by omega)
  have r1 := hR k hk q1
  have r2 := hR _ (hk.trans (.a (by omega) (.refl _))) q2
  have r3 := hR _ (hk.trans (.b (by omega) (.refl _))) q7
  unfold Right at r1 r2 r3
  rw [three_hold h hk h5, r1, r2, r3, ev_pair h hk h5]
  simp
theorem three_len (ps : List Nat) (k : Nat) : (threeN ns ps k).length = 3 := by unfold threeN; simp only; split <;> rfl
theorem flat_len (ps qs : List Nat) : (qs.flatMap (threeN ns ps)).length = 3 * qs.length := by
  induction qs with
  | nil => rfl
  | cons q qs ih => rw [List.flatMap_cons, List.length_append, three_len, ih, List.length_cons]; omega
theorem raw_lits (h : CnOk ns root vals t) : ∀ c ∈ rawN ns root, c.length ≤ 3 ∧ ∀ l ∈ c, l ≠ 0 ∧ l.natAbs ≤ (partsN ns root).length + vals.length := by
  intro c hc
  rw [rawN, List.mem_append, List.mem_flatMap] at hc
  rcases hc with ⟨k, hk, hc⟩ | hc
  · obtain ⟨hk, h5⟩ := (partsN_mem h.good h.rt k).1 hk
    have hkn : k < ns.length := Nat.lt_of_le_of_lt (hk.le h.good h.rt).1 h.rt
    obtain ⟨q1, q2, q3, q4, _⟩ := good_kids h.good hkn (by omega)
    obtain ⟨q6, q7, q8⟩ := q4 (by omega)
    have hd := litN_ne h hk q1
    have ha := litN_ne h (hk.trans (.a (by omega) (.refl _))) q2
    have hb := litN_ne h (hk.trans (.b (by omega) (.refl _))) q7
    unfold threeN at hc
    simp only at hc
    generalize litN ns (partsN ns root) k = d at *
    generalize litN ns (partsN ns root) (nd ns k).a.toNat = a at *
    generalize litN ns (partsN ns root) (nd ns k).b.toNat = b at *
    have nd1 : -d ≠ 0 ∧ (-d).natAbs ≤ (partsN ns root).length + vals.length := by omega
    have na1 : -a ≠ 0 ∧ (-a).natAbs ≤ (partsN ns root).length + vals.length := by omega
    have nb1 : -b ≠ 0 ∧ (-b).natAbs ≤ (partsN ns root).length + vals.length := by omega
    split at hc
    all_goals
      simp only [List.mem_cons, List.not_mem_nil, or_false] at hc
      rcases hc with rfl | rfl | rfl
      all_goals
        refine ⟨by simp, fun l hl => ?_⟩
        simp only [List.mem_cons, List.not_mem_nil, or_false] at hl
    · rcases hl with rfl | rfl <;> assumption
    · rcases hl with rfl | rfl <;> assumption
    · rcases hl with rfl | rfl | rfl <;> assumption
    · rcases hl with rfl | rfl <;> assumption
    · rcases hl with rfl | rfl <;> assumption
    · rcases hl with rfl | rfl | rfl <;> assumption
  · unfold lastN at hc
    split at hc
    · simp at hc; subst hc; exact ⟨by simp, fun l hl => by simp at hl⟩
    split at hc
    · simp at hc
    · rename_i h0 h1
      simp at hc
      subst hc
      refine ⟨by simp, fun l hl => ?_⟩
      obtain rfl : l = litN ns (partsN ns root) root := by simpa using hl
      exact litN_ne h (.refl _) (by omega)
end
end Go.Proofs.Ytbcabcdgblmnkaa
