/- How rows of nodes read; append of rows of several cells. -/
import Derived.Test.YtbcabcdgblmnkaaNodeSpec
import Derived.Test.YtbcabcdgblmnkaaRegApp
namespace Go.Proofs.Ytbcabcdgblmnkaa
open Go.RowKit
set_option linter.unusedVariables false
set_option linter.unusedSimpArgs false

theorem Rd.takeS {w : World} {size n : Nat} {A : Option Addr} {xs : List Value} {k : Nat} (h : Rd w size A n xs) (hk : k ≤ n) (hs : 0 < size) : Rd w size A k (xs.take (k * size)) := by
  have hl : k * size ≤ n * size := Nat.mul_le_mul_right _ hk
  refine ⟨by rw [List.length_take, h.1]; omega, fun hn => ?_⟩
  obtain ⟨b, off, rfl, hcell⟩ := h.2 (by omega)
  refine ⟨b, off, rfl, fun j u hu => hcell j u ?_⟩
  rw [List.getElem?_take] at hu
  split at hu
  · exact hu
  · cases hu

/-- 'out = append(out, xs...)', elements of several cells; 'out' of the call's own, xs whatever slice that reads. -/
theorem appRS {P : Program} (B : Nat) (W0 w : World) (size : Nat) (E : TypeId) {ops : Array Oper} {rest : List Oper} {o : Oper} {a : Act} {Q : Exit → Act → World → Prop} (hgd : o.guard = none) (s x : Operand) (t : TypeId)
    (ho : o.op = .call { callee := .builtin .append, args := #[s, x], argTypes := #[t, t] })
    (i : TypeInfo) (z : Value) (bytes : Nat) (ht : P.underlying t = some (.slice E)) (hi : P.info? E = some i) (hz : i.zero = some z)
    (hsize : i.size = size) (hby : i.bytes = bytes) (hzs : z.cells.size = size) (hsz : 0 < size) (hb1 : 0 < bytes)
    (v : Value) (n : Nat) (xs : List Value) (hs : a.eval s = v) (hB : B ≤ W0.heap.size) (hown : w.ownsRow B E size v n xs) (hbel : Below B W0 w)
    (A : Option Addr) (m c : Nat) (news : List Value) (hx : a.eval x = .slice A m c) (hrd : Rd w size A m news) (h1 : ∀ u ∈ news, u.oneCell' = true) (hbytes : (n + m) * bytes ≤ 140737488355328)
    (h : ∀ v' w', w'.ownsRow B E size v' (n + m) (xs ++ news) → Below B W0 w' → w.grownBy w' v.ownBlock → wpList P ops Q rest (a.put o.dst v') w') :
    wpList P ops Q (o :: rest) a w := by
  have hm : n + m ≤ (n + m) * bytes := Nat.le_mul_of_pos_right _ hb1
  have hBw : B ≤ w.heap.size := Nat.le_trans hB hbel.size
  rcases A with _ | ad
  · have hm0 : m = 0 := by
      rcases Nat.eq_zero_or_pos m with h0 | h0
      · exact h0
      · obtain ⟨_, _, h', _⟩ := hrd.2 h0
        cases h'
    subst hm0
    have hn : news = [] := List.eq_nil_of_length_eq_zero (by simpa using hrd.1)
    subst hn
    have hh := h v w (by simpa using hown) hbel (World.grownBy.refl w _)
    exact appNone hgd s x t ho B E i size ht hi v n c xs hs hown hx hh
  · refine wpList_append_own w hgd s x t ho B E i z size bytes ht hi hz hsize hby hzs hsz v n xs hs hown ad m c news hx hrd.1 ?_ h1 (by unfold maxLen; omega) hbytes hBw ?_
    · intro j u hu
      have hj : 0 < m := by
        have h1 := (List.getElem?_eq_some_iff.1 hu).1
        have h2 := hrd.1
        rcases Nat.eq_zero_or_pos m with h0 | h0
        · rw [h2, h0] at h1; simp at h1
        · exact h0
      obtain ⟨b, off, e, hc⟩ := hrd.2 hj
      injection e with e
      subst e
      rw [addr_add_none]
      exact hc j u hu
    · intro v' w' hown' hg _
      exact h v' w' hown' (hbel.grown hg hBw (fun k hk => (hown.lt k hk).1)) hg


theorem ndCells_one' (ns : List Nd) : ∀ u ∈ ndCells ns, u.oneCell' = true := by
  intro u hu
  simp [ndCells] at hu
  obtain ⟨n, _, rfl | rfl | rfl⟩ := hu <;> rfl
theorem ndCells_take (ns : List Nd) (k : Nat) : (ndCells ns).take (k * 3) = ndCells (ns.take k) := by
  induction ns generalizing k with
  | nil => simp [ndCells]
  | cons n ns ih =>
    cases k with
    | zero => simp [ndCells]
    | succ k =>
      have e : (k + 1) * 3 = k * 3 + 1 + 1 + 1 := by omega
      have h := ih k
      simp only [ndCells, List.flatMap_cons, List.cons_append, List.nil_append, List.take_succ_cons, e] at h ⊢
      rw [h]

theorem Rd.node3 {w : World} {A : Option Addr} {n : Nat} {os : List Nd} (h : Rd w 3 A n (ndCells os)) (k : Nat) (hk : k < os.length) (hn : os.length = n) :
    ∃ b off, A = some ⟨b, off, none⟩ ∧ w.cell? ⟨b, off + k * 3, none⟩ = some (.int .i64 os[k].k) ∧ w.cell? ⟨b, off + k * 3 + 1, none⟩ = some (.int .i64 os[k].a) ∧ w.cell? ⟨b, off + k * 3 + 2, none⟩ = some (.int .i64 os[k].b) ∧ b < w.heap.size := by
  obtain ⟨b, off, e, hc⟩ := h.2 (by omega)
  obtain ⟨h1, h2, h3⟩ := ndCells_get os k hk
  exact ⟨b, off, e, hc _ _ h1, hc _ _ h2, hc _ _ h3, World.block_lt_of_cell? w _ (hc _ _ h1)⟩

theorem Tab.rd {w : World} {tb mb : Nat} {sv : Value} {ns : List Nd} (h : Tab w tb mb sv ns) : ∃ g c, sv = .slice (some ⟨g, 0, none⟩) ns.length c ∧ g < w.heap.size ∧ Rd w 3 (some ⟨g, 0, none⟩) ns.length (ndCells ns) := by
  obtain ⟨g, c, rfl, hg⟩ := h.form
  obtain ⟨A, c', e, _, hr⟩ := ownsRow_form h.own
  injection e with e1 e2 e3
  subst e1
  exact ⟨g, c, rfl, hg, hr⟩

theorem Rd.nd3 {w : World} {A : Option Addr} {n : Nat} {os : List Nd} (h : Rd w 3 A n (ndCells os)) (k : Nat) (hk : k < os.length) (hn : os.length = n) :
    ∃ b off, A = some ⟨b, off, none⟩ ∧ w.cell? ⟨b, off + k * 3, none⟩ = some (.int .i64 (nd os k).k) ∧ w.cell? ⟨b, off + k * 3 + 1, none⟩ = some (.int .i64 (nd os k).a) ∧ w.cell? ⟨b, off + k * 3 + 2, none⟩ = some (.int .i64 (nd os k).b) ∧ b < w.heap.size := by
  rw [nd_get os k hk]
  exact h.node3 k hk hn

theorem Rd.nd3' {w : World} {b off n : Nat} {os : List Nd} (h : Rd w 3 (some ⟨b, off, none⟩) n (ndCells os)) (k : Nat) (hk : k < os.length) (hn : os.length = n) :
    w.cell? ⟨b, off + k * 3, none⟩ = some (.int .i64 (nd os k).k) ∧ w.cell? ⟨b, off + k * 3 + 1, none⟩ = some (.int .i64 (nd os k).a) ∧ w.cell? ⟨b, off + k * 3 + 2, none⟩ = some (.int .i64 (nd os k).b) := by
  obtain ⟨b', off', e, h0, h1, h2, _⟩ := h.nd3 k hk hn
  injection e with e
  injection e with e1 e2
  subst e1; subst e2
  exact ⟨h0, h1, h2⟩

theorem Rd.nd3e {w : World} {b off n : Nat} {os : List Nd} (h : Rd w 3 (some ⟨b, off, none⟩) n (ndCells os)) (k : Nat) (hk : k < os.length) (hn : os.length = n := by rfl) :
    w.cell? ⟨b, off + k * 3, none⟩ = some (.int .i64 (nd os k).k) ∧ w.cell? ⟨b, off + k * 3 + 1, none⟩ = some (.int .i64 (nd os k).a) ∧ w.cell? ⟨b, off + k * 3 + 2, none⟩ = some (.int .i64 (nd os k).b) := by
  obtain ⟨b', off', e, h0, h1, h2, _⟩ := h.node3 k hk hn
  rw [← nd_get os k hk] at h0 h1 h2
  injection e with e
  injection e with e1 e2
  subst e1; subst e2
  exact ⟨h0, h1, h2⟩
end Go.Proofs.Ytbcabcdgblmnkaa
