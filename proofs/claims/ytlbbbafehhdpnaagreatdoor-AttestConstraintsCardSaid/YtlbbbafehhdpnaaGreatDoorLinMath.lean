/- Linear expressions as lists of terms: values, sums, multiples, the one form; what a constraint says. No program in sight. -/
import Derived.Test.YtlbbbafehhdpnaaGreatDoorRatMath
import Derived.Test.YtlbbbafehhdpnaaGreatDoorRatB
import Derived.Lib.SliceRun
import Derived.Lib.ItoaNum
namespace Go.Proofs.YtlbbbafehhdpnaaGreatDoor
set_option linter.unusedVariables false
set_option linter.unusedSimpArgs false

abbrev Tm := Int × Rat
def evT (p : Int → Rat) : List Tm → Rat
  | [] => 0
  | t :: r => t.2 * p t.1 + evT p r
theorem evT_app (p : Int → Rat) : ∀ l m : List Tm, evT p (l ++ m) = evT p l + evT p m
  | [], m => by simp only [List.nil_append, evT]; grind
  | t :: l, m => by
    have := evT_app p l m
    simp only [List.cons_append, evT, this]; grind
theorem evT_perm (p : Int → Rat) {l m : List Tm} (h : l.Perm m) : evT p l = evT p m := by
  induction h with
  | nil => rfl
  | cons x _ ih => simp only [evT, ih]
  | swap x y l => simp only [evT]; grind
  | trans _ _ h1 h2 => rw [h1, h2]
def scT (r : Rat) (l : List Tm) : List Tm := l.map fun t => (t.1, r * t.2)
theorem evT_sc (p : Int → Rat) (r : Rat) : ∀ l : List Tm, evT p (scT r l) = r * evT p l
  | [] => by simp only [scT, List.map_nil, evT]; grind
  | t :: l => by
    have := evT_sc p r l
    simp only [scT, List.map_cons, evT] at this ⊢
    rw [this]; grind
/-- neighbours of one variable added up, what comes to 0 left out. -/
def grpGo (v : Int) (c : Rat) : List Tm → List Tm
  | [] => if c = 0 then [] else [(v, c)]
  | t :: r => if t.1 = v then grpGo v (c + t.2) r else (if c = 0 then [] else [(v, c)]) ++ grpGo t.1 (0 + t.2) r
def grp : List Tm → List Tm
  | [] => []
  | t :: r => grpGo t.1 (0 + t.2) r
theorem evT_grpGo (p : Int → Rat) : ∀ (l : List Tm) (v : Int) (c : Rat), evT p (grpGo v c l) = c * p v + evT p l
  | [], v, c => by
    unfold grpGo
    split <;> simp only [evT] <;> grind
  | t :: r, v, c => by
    unfold grpGo
    split
    · rename_i h
      rw [evT_grpGo p r v, evT, h]; grind
    · rw [evT_app, evT_grpGo p r t.1]
      simp only [evT]
      split <;> simp only [evT] <;> grind
theorem evT_grp (p : Int → Rat) (l : List Tm) : evT p (grp l) = evT p l := by
  cases l with
  | nil => rfl
  | cons t r =>
    unfold grp
    rw [evT_grpGo]
    simp only [evT]; grind
theorem grpGo_nz : ∀ (l : List Tm) (v : Int) (c : Rat), ∀ t ∈ grpGo v c l, t.2 ≠ 0
  | [], v, c => by
    unfold grpGo
    split
    · simp
    · rename_i h
      simpa using h
  | t :: r, v, c => by
    unfold grpGo
    split
    · exact grpGo_nz r v _
    · intro u hu
      rcases List.mem_append.1 hu with h | h
      · split at h
        · simp at h
        · rename_i hc
          simp at h
          rw [h]
          exact hc
      · exact grpGo_nz r _ _ u h
theorem grp_nz (l : List Tm) : ∀ t ∈ grp l, t.2 ≠ 0 := by
  cases l with
  | nil => simp [grp]
  | cons t r => exact grpGo_nz r _ _
theorem grpGo_len : ∀ (l : List Tm) (v : Int) (c : Rat), (grpGo v c l).length ≤ l.length + 1
  | [], v, c => by
    unfold grpGo
    split <;> simp
  | t :: r, v, c => by
    unfold grpGo
    split
    · have := grpGo_len r v (c + t.2)
      simp only [List.length_cons]
      omega
    · have := grpGo_len r t.1 (0 + t.2)
      simp only [List.length_append, List.length_cons]
      split <;> simp <;> omega
theorem grp_len (l : List Tm) : (grp l).length ≤ l.length := by
  cases l with
  | nil => simp [grp]
  | cons t r =>
    have := grpGo_len r t.1 (0 + t.2)
    simpa [grp] using this

/-- where the variables are. -/
def ptAt (l : List Rat) (v : Int) : Rat := if 0 ≤ v ∧ v < l.length then l.getD v.toNat 0 else 0
/-- does a number compare so with 0? -/
def saysQ (op : Int) (r : Rat) : Bool := decide ((r = 0 ∧ op ≠ 2) ∨ (r < 0 ∧ op ≠ 3))
theorem says_le (r : Rat) : saysQ 1 r = decide (r ≤ 0) := by
  unfold saysQ
  apply decide_eq_decide.2
  constructor
  · rintro (⟨h, _⟩ | ⟨h, _⟩) <;> grind
  · intro h
    by_cases h0 : r = 0
    · exact .inl ⟨h0, by decide⟩
    · exact .inr ⟨by grind, by decide⟩
theorem says_lt (r : Rat) : saysQ 2 r = decide (r < 0) := by
  unfold saysQ
  apply decide_eq_decide.2
  constructor
  · rintro (⟨_, h⟩ | ⟨h, _⟩)
    · exact absurd rfl h
    · exact h
  · exact fun h => .inr ⟨h, by decide⟩
theorem says_eq (r : Rat) : saysQ 3 r = decide (r = 0) := by
  unfold saysQ
  apply decide_eq_decide.2
  constructor
  · rintro (⟨h, _⟩ | ⟨_, h⟩)
    · exact h
    · exact absurd rfl h
  · exact fun h => .inl ⟨h, by decide⟩
theorem says_most {op : Int} {r : Rat} (h : saysQ op r = true) : r ≤ 0 := by
  unfold saysQ at h
  have := of_decide_eq_true h
  rcases this with ⟨h, _⟩ | ⟨h, _⟩ <;> grind
/-- a positive multiple says the same; of an equation any multiple but 0. -/
theorem says_mul {op : Int} {r k : Rat} (hk : 0 < k ∨ (op = 3 ∧ k ≠ 0)) : saysQ op (k * r) = saysQ op r := by
  unfold saysQ
  apply decide_eq_decide.2
  have h0 : k ≠ 0 := by rcases hk with h | ⟨_, h⟩ <;> grind
  have hz : k * r = 0 ↔ r = 0 := by
    constructor
    · intro h; grind
    · intro h; rw [h]; grind
  rw [hz]
  have hl : op ≠ 3 → (k * r < 0 ↔ r < 0) := fun ho => by
    have hp : 0 < k := by
      rcases hk with h | ⟨h, _⟩
      · exact h
      · exact absurd h ho
    constructor
    · intro h
      by_cases hr : r < 0
      · exact hr
      · have := Rat.mul_nonneg (a := k) (b := r) (by grind) (by grind)
        grind
    · intro h
      have := Rat.mul_pos (a := k) (b := -r) hp (by grind)
      grind
  by_cases ho : op = 3
  · simp [ho]
  · rw [hl ho]
theorem sign_neg (q : Rat) : ratNeg q = decide (q < 0) := by
  unfold ratNeg
  apply decide_eq_decide.2
  have := @Rat.num_nonneg q
  constructor
  · intro h
    by_cases hq : q < 0
    · exact hq
    · have : 0 ≤ q.num := this.2 (by grind)
      omega
  · intro h
    by_cases hq : q.num < 0
    · exact hq
    · have : 0 ≤ q := this.1 (by omega)
      grind
theorem evT_congr {p p' : Int → Rat} : ∀ l : List Tm, (∀ t ∈ l, p t.1 = p' t.1) → evT p l = evT p' l
  | [], _ => rfl
  | t :: r, h => by
    simp only [evT, h t (by simp), evT_congr r fun u hu => h u (by simp [hu])]
end Go.Proofs.YtlbbbafehhdpnaaGreatDoor

namespace Go.Proofs.YtlbbbafehhdpnaaGreatDoor
open Go.RowKit
set_option linter.unusedVariables false
set_option linter.unusedSimpArgs false

/-- a term with the place of its number. -/
abbrev TB := RB × Tm
def tmL (t : TB) : List Value := [.int .i64 t.2.1, .bool (ratNeg t.2.2), .slice t.1.A t.1.n t.1.c, .slice t.1.A2 t.1.n2 t.1.c2]
def tmV (t : TB) : Value := .agg #[.int .i64 t.2.1, .bool (ratNeg t.2.2), .slice t.1.A t.1.n t.1.c, .slice t.1.A2 t.1.n2 t.1.c2]
def tmsL (l : List TB) : List Value := l.flatMap tmL
theorem tmL_len (t : TB) : (tmL t).length = 4 := rfl
theorem tmsL_cons (t : TB) (l : List TB) : tmsL (t :: l) = tmL t ++ tmsL l := List.flatMap_cons
theorem tmsL_app (l m : List TB) : tmsL (l ++ m) = tmsL l ++ tmsL m := List.flatMap_append
theorem tmsL_len : ∀ l : List TB, (tmsL l).length = l.length * 4
  | [] => rfl
  | t :: l => by rw [tmsL_cons, List.length_append, tmsL_len l, tmL_len, List.length_cons]; omega
theorem tmsL_at : ∀ (l : List TB) (k : Nat) (t : TB), l[k]? = some t → ∀ j, j < 4 → (tmsL l)[k * 4 + j]? = (tmL t)[j]?
  | [], k, t, h, _, _ => by simp at h
  | t' :: l, 0, t, h, j, hj => by
    simp at h
    subst h
    rw [tmsL_cons, List.getElem?_append_left (by rw [tmL_len]; omega)]
    simp
  | t' :: l, k + 1, t, h, j, hj => by
    have ih := tmsL_at l k t (by simpa using h) j hj
    rw [tmsL_cons, List.getElem?_append_right (by rw [tmL_len]; omega), tmL_len, show (k + 1) * 4 + j - 4 = k * 4 + j by omega]
    exact ih
theorem tmsL_set : ∀ (l : List TB) (k : Nat) (t : TB), k < l.length → tmsL (l.set k t) = ((((tmsL l).set (k * 4) (.int .i64 t.2.1)).set (k * 4 + 1) (.bool (ratNeg t.2.2))).set (k * 4 + 2) (.slice t.1.A t.1.n t.1.c)).set (k * 4 + 3) (.slice t.1.A2 t.1.n2 t.1.c2)
  | [], k, t, h => by simp at h
  | t' :: l, 0, t, h => by
    rw [List.set_cons_zero, tmsL_cons, tmsL_cons]
    simp [tmL]
  | t' :: l, k + 1, t, h => by
    have ih := tmsL_set l k t (by simpa using h)
    rw [List.set_cons_succ, tmsL_cons, ih, tmsL_cons]
    have e : ∀ (a : List Value) (i : Nat) (v : Value), (tmL t' ++ a).set (i + 4) v = tmL t' ++ a.set i v := fun a i v => by
      rw [List.set_append_right _ _ (by rw [tmL_len]; omega), tmL_len, show i + 4 - 4 = i by omega]
    rw [show (k + 1) * 4 = k * 4 + 4 by omega, show k * 4 + 4 + 1 = k * 4 + 1 + 4 by omega, show k * 4 + 4 + 2 = k * 4 + 2 + 4 by omega, show k * 4 + 4 + 3 = k * 4 + 3 + 4 by omega, e, e, e, e]
theorem tmL_one (t : TB) : ∀ u ∈ tmL t, u.oneCell' = true := by
  intro u hu
  simp [tmL] at hu
  rcases hu with rfl | rfl | rfl | rfl <;> rfl

/-- a store of a whole term. -/
def put4 (w : World) (g k : Nat) (t : TB) : World := (((w.setCell ⟨g, k * 4, none⟩ (.int .i64 t.2.1)).setCell ⟨g, k * 4 + 1, none⟩ (.bool (ratNeg t.2.2))).setCell ⟨g, k * 4 + 2, none⟩ (.slice t.1.A t.1.n t.1.c)).setCell ⟨g, k * 4 + 3, none⟩ (.slice t.1.A2 t.1.n2 t.1.c2)
theorem put4_fr (w : World) (g k : Nat) (t : TB) : Fr (fun b => b = g) w (put4 w g k t) := fr_set (fr_set (fr_set (fr_set (Fr.refl _ _) (.inl rfl)) (.inl rfl)) (.inl rfl)) (.inl rfl)
theorem put4_size (w : World) (g k : Nat) (t : TB) : (put4 w g k t).heap.size = w.heap.size := by simp [put4, World.setCell]
theorem put4_bel {B : Nat} {w0 w : World} (h : Below B w0 w) {g : Nat} (hg : B ≤ g) (k : Nat) (t : TB) : Below B w0 (put4 w g k t) := bl_set (bl_set (bl_set (bl_set h hg) hg) hg) hg
theorem put4_drew (w : World) (g k : Nat) (t : TB) : put4 w.drew g k t = (put4 w g k t).drew := rfl

/-- block g holds these terms from its head on. -/
structure TRow (w : World) (g c : Nat) (l : List TB) : Prop where
  own : w.ownsRow 0 70 4 (.slice (some ⟨g, 0, none⟩) l.length c) l.length (tmsL l)
theorem TRow.blk {w : World} {g c : Nat} {l : List TB} (h : TRow w g c l) : ∃ cur : Array Value, w.heap[g]? = some (.cells cur 70 (0, 0)) ∧ cur.size = c * 4 ∧ cur.toList.take (l.length * 4) = tmsL l ∧ l.length ≤ c ∧ c ≤ maxLen := by
  rcases h.own.2 with ⟨hv, _⟩ | ⟨g', cap, cur, hv, _, hx, h1, h2, h3, h4⟩
  · cases hv
  · injection hv with e1 e2 e3
    injection e1 with e1
    injection e1 with e1
    subst e1; subst e3
    exact ⟨cur, hx, h3, h4, h1, h2⟩
theorem TRow.of_blk {w : World} {g c : Nat} {l : List TB} {cur : Array Value} (hx : w.heap[g]? = some (.cells cur 70 (0, 0))) (h3 : cur.size = c * 4) (h4 : cur.toList.take (l.length * 4) = tmsL l) (h1 : l.length ≤ c) (h2 : c ≤ maxLen) : TRow w g c l :=
  ⟨by rw [tmsL_len], .inr ⟨g, c, cur, rfl, Nat.zero_le _, hx, h1, h2, h3, h4⟩⟩
theorem TRow.below {w w' : World} {g c : Nat} {l : List TB} (h : TRow w g c l) (hb : Below w.heap.size w w') : TRow w' g c l := ⟨own_below h.own hb⟩
theorem TRow.drew {w : World} {g c : Nat} {l : List TB} (h : TRow w g c l) : TRow w.drew g c l := h.below (below_drew2 (Below.refl _ _))
theorem TRow.drewN {w : World} {g c : Nat} {l : List TB} (h : TRow w g c l) (q : Nat) : TRow (w.drewN q) g c l := h.below (below_drewN (Below.refl _ _) q)
theorem TRow.lt {w : World} {g c : Nat} {l : List TB} (h : TRow w g c l) : g < w.heap.size := by
  obtain ⟨cur, hx, _⟩ := h.blk
  exact lt_of_blk hx
theorem TRow.fz {w : World} {g c : Nat} {l : List TB} (h : TRow w g c l) (i : Nat) : w.frozen? ⟨g, i, none⟩ = false := by
  obtain ⟨cur, hx, _⟩ := h.blk
  exact frozen_of_blk hx i
theorem TRow.cell {w : World} {g c : Nat} {l : List TB} (h : TRow w g c l) {k : Nat} {t : TB} (hk : l[k]? = some t) : w.cell? ⟨g, k * 4, none⟩ = some (.int .i64 t.2.1) ∧ w.cell? ⟨g, k * 4 + 1, none⟩ = some (.bool (ratNeg t.2.2)) ∧ w.cell? ⟨g, k * 4 + 2, none⟩ = some (.slice t.1.A t.1.n t.1.c) ∧ w.cell? ⟨g, k * 4 + 3, none⟩ = some (.slice t.1.A2 t.1.n2 t.1.c2) := by
  obtain ⟨cur, hx, h3, h4, h1, _⟩ := h.blk
  have hlt : k < l.length := (List.getElem?_eq_some_iff.1 hk).1
  have key : ∀ j, j < 4 → w.cell? ⟨g, k * 4 + j, none⟩ = (tmL t)[j]? := by
    intro j hj
    rw [cell_of_blk hx, ← tmsL_at l k t hk j hj, ← h4, List.getElem?_take, if_pos (by omega)]
    simp
  exact ⟨key 0 (by decide), key 1 (by decide), key 2 (by decide), key 3 (by decide)⟩
theorem set_take (cur : List Value) (i n : Nat) (v : Value) : (cur.set i v).take n = (cur.take n).set i v := List.take_set
theorem TRow.put {w : World} {g c : Nat} {l : List TB} (h : TRow w g c l) {k : Nat} (hk : k < l.length) (t : TB) : TRow (put4 w g k t) g c (l.set k t) := by
  obtain ⟨cur, hx, h3, h4, h1, h2⟩ := h.blk
  refine TRow.of_blk (cur := (((cur.setIfInBounds (k * 4) (.int .i64 t.2.1)).setIfInBounds (k * 4 + 1) (.bool (ratNeg t.2.2))).setIfInBounds (k * 4 + 2) (.slice t.1.A t.1.n t.1.c)).setIfInBounds (k * 4 + 3) (.slice t.1.A2 t.1.n2 t.1.c2)) ?_ (by simp [h3]) ?_ (by simpa using h1) h2
  · exact set_blk (set_blk (set_blk (set_blk hx _ _) _ _) _ _) _ _
  · rw [List.length_set, tmsL_set l k t hk, ← h4]
    simp only [Array.toList_setIfInBounds, set_take]
/-- places i and j exchanged. -/
def exch (l : List TB) (i j : Nat) : List TB := match l[i]?, l[j]? with
  | some a, some b => (l.set i b).set j a
  | _, _ => l
theorem exch_len (l : List TB) (i j : Nat) : (exch l i j).length = l.length := by
  unfold exch
  split <;> simp
theorem exch_perm (l : List TB) (i j : Nat) : (exch l i j).Perm l := by
  unfold exch
  split
  · rename_i a b ha hb
    obtain ⟨hi, rfl⟩ := List.getElem?_eq_some_iff.1 ha
    obtain ⟨hj, rfl⟩ := List.getElem?_eq_some_iff.1 hb
    exact List.set_set_perm hi hj
  · exact List.Perm.refl _
theorem TRow.exch {w : World} {g c : Nat} {l : List TB} (h : TRow w g c l) {i j : Nat} {a b : TB} (hi : l[i]? = some a) (hj : l[j]? = some b) : TRow (put4 (put4 w g i b) g j a) g c (exch l i j) := by
  have h1 := h.put (List.getElem?_eq_some_iff.1 hi).1 b
  have h2 := h1.put (k := j) (by rw [List.length_set]; exact (List.getElem?_eq_some_iff.1 hj).1) a
  unfold Go.Proofs.YtlbbbafehhdpnaaGreatDoor.exch
  rw [hi, hj]
  exact h2
end Go.Proofs.YtlbbbafehhdpnaaGreatDoor

namespace Go.Proofs.YtlbbbafehhdpnaaGreatDoor
open Go.RowKit
set_option linter.unusedVariables false
set_option linter.unusedSimpArgs false

/-- 'out = append(out, xs...)', elements of several cells; 'out' of the call's own, xs whatever slice that reads. -/
theorem appRn {P : Program} (B : Nat) (W0 w : World) (size : Nat) (E : TypeId) {ops : Array Oper} {rest : List Oper} {o : Oper} {a : Act} {Q : Exit → Act → World → Prop} (hgd : o.guard = none) (s x : Operand) (t : TypeId)
    (ho : o.op = .call { callee := .builtin .append, args := #[s, x], argTypes := #[t, t] })
    (i : TypeInfo) (z : Value) (bytes : Nat) (ht : P.underlying t = some (.slice E)) (hi : P.info? E = some i) (hz : i.zero = some z)
    (hsize : i.size = size) (hby : i.bytes = bytes) (hzs : z.cells.size = size) (hsz : 0 < size) (hb1 : 0 < bytes)
    (v : Value) (n : Nat) (xs : List Value) (hs : a.eval s = v) (hB : B ≤ W0.heap.size) (hown : w.ownsRow B E size v n xs) (hbel : Below B W0 w)
    (A : Option Addr) (m c : Nat) (news : List Value) (hx : a.eval x = .slice A m c) (hrd : Rd w size A m news) (h1 : ∀ u ∈ news, u.oneCell' = true) (hbytes : (n + m) * bytes ≤ 140737488355328)
    (h : ∀ v' w', w'.ownsRow B E size v' (n + m) (xs ++ news) → Below B W0 w' → w.grownBy w' v.ownBlock → wpList P ops Q rest (a.put o.dst v') w') :
    wpList P ops Q (o :: rest) a w := by
  have hm : n + m ≤ (n + m) * bytes := Nat.le_mul_of_pos_right _ hb1
  have hBw : B ≤ w.heap.size := Nat.le_trans hB hbel.size
  rcases A with _ | ad
  · have hm0 : m = 0 := by
      rcases Nat.eq_zero_or_pos m with h0 | h0
      · exact h0
      · obtain ⟨_, _, h', _⟩ := hrd.2 h0
        cases h'
    subst hm0
    have hn : news = [] := List.eq_nil_of_length_eq_zero (by simpa using hrd.1)
    subst hn
    have hh := h v w (by simpa using hown) hbel (World.grownBy.refl w _)
    exact appNone hgd s x t ho B E i size ht hi v n c xs hs hown hx hh
  · refine wpList_append_own w hgd s x t ho B E i z size bytes ht hi hz hsize hby hzs hsz v n xs hs hown ad m c news hx hrd.1 ?_ h1 (by unfold maxLen; omega) hbytes hBw ?_
    · intro j u hu
      have hj : 0 < m := by
        have h2 := (List.getElem?_eq_some_iff.1 hu).1
        rw [hrd.1] at h2
        rcases Nat.eq_zero_or_pos m with h0 | h0
        · subst h0; simp at h2
        · exact h0
      obtain ⟨b, off, e, hc⟩ := hrd.2 hj
      injection e with e
      subst e
      rw [addr_add_none]
      exact hc j u hu
    · intro v' w' hown' hg _
      exact h v' w' hown' (hbel.grown hg hBw (fun k hk => (hown.lt k hk).1)) hg
theorem own_empty4 (w : World) (B : Nat) (hB : B ≤ w.heap.size) : (w.alloc (.cells #[] 70)).ownsRow B 70 4 (.slice (some ⟨w.heap.size, 0, none⟩) 0 0) 0 [] := by
  have := World.ownsRow_lit (base := B) (e := 70) (size := 4) w #[] 0 hB (by unfold maxLen; omega) rfl
  simpa using this
theorem info_term : (Tryz.prog.info? 70).map (fun i => (i.zero, i.size, i.bytes)) = some (some (.agg #[.int .i64 0, .bool false, .slice none 0 0, .slice none 0 0]), 4, 64) := by kernel_rfl
theorem tmsL_one (l : List TB) : ∀ u ∈ tmsL l, u.oneCell' = true := by
  intro u hu
  obtain ⟨t, _, ht⟩ := List.mem_flatMap.1 hu
  exact tmL_one t u ht
set_option maxRecDepth 100000 in
theorem clone_any (l : List TB) (A : Option Addr) (n c : Nat) (w : World) (h : Rd w 4 A n (tmsL l)) (hl : l.length = n) (hb : n ≤ 1000000) :
    Calls Tryz.prog 27 #[.slice A n c] w fun e w' => ∃ v', e = .returned v' ∧ w'.ownsRow w.heap.size 70 4 v' n (tmsL l) ∧ Below w.heap.size w w' := by
  obtain ⟨i0, hi, hz0, hz1, hz2⟩ := info_parts info_term
  rcases A with _ | ad
  · have hn : n = 0 := by
      rcases Nat.eq_zero_or_pos n with h0 | h0
      · exact h0
      · obtain ⟨_, _, h', _⟩ := h.2 h0
        cases h'
    subst hn
    obtain rfl : l = [] := List.eq_nil_of_length_eq_zero hl
    clear h hl
    have heq := fun W => Lib.run_eql_slice_nil (P := Tryz.prog) W 30 70 none 0 c 0 0 Tryz.underlying30
    go_enter Tryz.func27, Tryz.ntmps27
    go_wp2_with fail
    go_ret
    exact ⟨_, rfl, World.ownsRow_nil _ _ _ _, Below.refl _ _⟩
  · have heq := fun W => Lib.run_eql_slice_nil (P := Tryz.prog) W 30 70 (some ad) n c 0 0 Tryz.underlying30
    have H := Lib.hid h
    clear h hl
    go_enter Tryz.func27, Tryz.ntmps27
    go_wp2_with (at_builtin; refine appRn w.heap.size w (w.alloc (.cells #[] 70)) 4 70 rfl _ _ 30 rfl i0 _ 64 Tryz.underlying30 hi hz0 hz1 hz2 rfl (by decide) (by decide) _ 0 [] rfl (Nat.le_refl _) (own_empty4 _ _ (Nat.le_refl _)) ((Below.refl _ _).alloc (Nat.le_refl _) _) (some ad) n c (tmsL l) rfl (H.out.alloc _) (tmsL_one l) (by omega) ?_)
    intro v8 w8 ho8 hx _
    have HO := Lib.hid ho8
    have HX := Lib.hid hx
    clear ho8 hx
    go_wp2_with fail
    go_ret
    exact ⟨_, rfl, HO.out, HX.out⟩
end Go.Proofs.YtlbbbafehhdpnaaGreatDoor

namespace Go.Proofs.YtlbbbafehhdpnaaGreatDoor
set_option linter.unusedVariables false
set_option linter.unusedSimpArgs false

theorem split_byte (x : UInt8) : ∀ (a b a' b' : List UInt8), x ∉ a → x ∉ a' → a ++ x :: b = a' ++ x :: b' → a = a' ∧ b = b'
  | [], b, [], b', _, _, h => by simp at h; exact ⟨rfl, h⟩
  | [], b, y :: a', b', _, h2, h => by
    simp at h
    exact absurd (by simp [h.1]) h2
  | y :: a, b, [], b', h1, _, h => by
    simp at h
    exact absurd (by simp [h.1]) h1
  | y :: a, b, y' :: a', b', h1, h2, h => by
    simp at h
    have := split_byte x a b a' b' (fun hx => h1 (by simp [hx])) (fun hx => h2 (by simp [hx])) (by simpa using h.2)
    exact ⟨by rw [h.1, this.1], this.2⟩
def dval (l : List UInt8) : Nat := l.foldl (fun a b => a * 10 + (b.toNat - 48)) 0
theorem dval_dec (u : Nat) : dval (Lib.decDigits u) = u := by
  induction u using Nat.strongRecOn with
  | ind u ih =>
    rw [Lib.decDigits]
    split
    · rename_i h
      simp [dval, Nat.mod_eq_of_lt (show 48 + u < 256 by omega)]
    · rename_i h
      have := ih (u / 10) (by omega)
      unfold dval at this ⊢
      rw [List.foldl_append, this]
      simp
      rw [Nat.mod_eq_of_lt (show 48 + u % 10 < 256 by omega)]
      omega
theorem dec_byte (u : Nat) : ∀ b ∈ Lib.decDigits u, 48 ≤ b.toNat ∧ b.toNat ≤ 57 := by
  induction u using Nat.strongRecOn with
  | ind u ih =>
    rw [Lib.decDigits]
    split
    · intro b hb
      simp at hb
      subst hb
      simp [Nat.mod_eq_of_lt (show 48 + u < 256 by omega)]
      omega
    · intro b hb
      rcases List.mem_append.1 hb with h | h
      · exact ih (u / 10) (by omega) b h
      · simp at h
        subst h
        simp [Nat.mod_eq_of_lt (show 48 + u % 10 < 256 by omega)]
        omega
theorem dec_head (u : Nat) (r : List UInt8) : Lib.decDigits u ≠ 45 :: r := by
  intro e
  have := dec_byte u 45 (by rw [e]; simp)
  have e2 : (45 : UInt8).toNat = 45 := rfl
  omega
theorem itoa_byte (n : Int) : ∀ b ∈ Lib.itoa n, b = 45 ∨ (48 ≤ b.toNat ∧ b.toNat ≤ 57) := by
  intro b hb
  unfold Lib.itoa at hb
  split at hb
  · rcases List.mem_cons.1 hb with h | h
    · exact .inl h
    · exact .inr (dec_byte _ b h)
  · exact .inr (dec_byte _ b hb)
theorem itoa_inj {n m : Int} (h : Lib.itoa n = Lib.itoa m) : n = m := by
  unfold Lib.itoa at h
  split at h <;> split at h
  · injection h with _ h
    have := congrArg dval h
    rw [dval_dec, dval_dec] at this
    omega
  · exact absurd h.symm (dec_head _ _)
  · exact absurd h (dec_head _ _)
  · have := congrArg dval h
    rw [dval_dec, dval_dec] at this
    omega
theorem map_dig : ∀ (l m : List Nat), (∀ d ∈ l, d < 10) → (∀ d ∈ m, d < 10) → l.map (fun d => UInt8.ofNat (48 + d)) = m.map (fun d => UInt8.ofNat (48 + d)) → l = m
  | [], [], _, _, _ => rfl
  | [], _ :: _, _, _, h => by simp at h
  | _ :: _, [], _, _, h => by simp at h
  | a :: l, b :: m, h1, h2, h => by
    simp only [List.map_cons, List.cons.injEq] at h
    have ha := h1 a (by simp)
    have hb := h2 b (by simp)
    have e := congrArg UInt8.toNat h.1
    simp [Nat.mod_eq_of_lt (show 48 + a < 256 by omega), Nat.mod_eq_of_lt (show 48 + b < 256 by omega)] at e
    rw [e, map_dig l m (fun d hd => h1 d (by simp [hd])) (fun d hd => h2 d (by simp [hd])) h.2]
theorem dg_inj {N M : Nat} (h : dg N = dg M) : N = M := by
  have := map_dig _ _ (dec_small N) (dec_small M) h
  rw [← dv_dec N, this, dv_dec]
theorem dg_no (N : Nat) (x : UInt8) (hx : x.toNat < 48) : x ∉ dg N := fun h => by
  have := (dg_byte N x h).1
  omega
theorem body_inj {p q : Rat} (h : bodyL p = bodyL q) : p.num.natAbs = q.num.natAbs ∧ p.den = q.den := by
  unfold bodyL at h
  have h47 : (47 : UInt8).toNat < 48 := by decide
  split at h <;> split at h
  · rename_i h1 h2
    simp only [List.append_nil] at h
    exact ⟨dg_inj h, by rw [h1, h2]⟩
  · exfalso
    rw [List.append_nil] at h
    exact dg_no p.num.natAbs 47 h47 (by rw [h]; simp)
  · exfalso
    rw [List.append_nil] at h
    exact dg_no q.num.natAbs 47 h47 (by rw [← h]; simp)
  · obtain ⟨h1, h2⟩ := split_byte 47 _ _ _ _ (dg_no _ 47 h47) (dg_no _ 47 h47) h
    exact ⟨dg_inj h1, dg_inj h2⟩
theorem print_inj {p q : Rat} (h : printL p = printL q) : p = q := by
  have hb : ratNeg p = ratNeg q ∧ bodyL p = bodyL q := by
    unfold printL signL at h
    cases hp : ratNeg p <;> cases hq : ratNeg q <;> rw [hp, hq] at h
    · exact ⟨rfl, by simpa using h⟩
    · exfalso
      have := body_head p 45 (by simp at h; rw [h]; rfl)
      exact this rfl
    · exfalso
      have := body_head q 45 (by simp at h; rw [← h]; rfl)
      exact this rfl
    · exact ⟨rfl, by simpa using h⟩
  obtain ⟨h1, h2⟩ := body_inj hb.2
  exact rat_ext hb.1 h1 h2
theorem print_byte (q : Rat) : ∀ b ∈ printL q, b ≠ 32 := by
  intro b hb e
  subst e
  unfold printL signL bodyL at hb
  have e2 : (32 : UInt8).toNat = 32 := rfl
  have hd : ∀ N, (32 : UInt8) ∉ dg N := fun N h => by
    have := dg_byte N 32 h
    omega
  simp only [List.mem_append] at hb
  rcases hb with h | h | h
  · split at h <;> simp at h
  · exact hd _ h
  · split at h
    · simp at h
    · rcases List.mem_cons.1 h with h | h
      · exact absurd h (by decide)
      · exact hd _ h
/-- the text of a list of terms. -/
def tmTxt : List Tm → List UInt8
  | [] => []
  | t :: r => (Lib.itoa t.1 ++ 58 :: (printL t.2 ++ [32])) ++ tmTxt r
theorem tmTxt_app (l m : List Tm) : tmTxt (l ++ m) = tmTxt l ++ tmTxt m := by
  induction l with
  | nil => rfl
  | cons t r ih => simp [tmTxt, ih]
theorem tmTxt_inj : ∀ (l m : List Tm), tmTxt l = tmTxt m → l = m
  | [], [], _ => rfl
  | [], t :: r, h => by simp [tmTxt] at h
  | t :: r, [], h => by simp [tmTxt] at h
  | t :: r, t' :: r', h => by
    simp only [tmTxt, List.append_assoc, List.cons_append, List.nil_append] at h
    have h58 : ∀ n : Int, (58 : UInt8) ∉ Lib.itoa n := fun n hb => by
      have e : (58 : UInt8).toNat = 58 := rfl
      rcases itoa_byte n 58 hb with h | h
      · exact absurd h (by decide)
      · omega
    obtain ⟨h1, h2⟩ := split_byte 58 _ _ _ _ (h58 _) (h58 _) h
    obtain ⟨h3, h4⟩ := split_byte 32 _ _ _ _ (fun hb => print_byte _ _ hb rfl) (fun hb => print_byte _ _ hb rfl) h2
    rw [tmTxt_inj r r' h4, Prod.ext (itoa_inj h1) (print_inj h3)]
end Go.Proofs.YtlbbbafehhdpnaaGreatDoor
