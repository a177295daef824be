/- append within a region that draws its order; worlds behind a draw. -/
import Derived.Test.YtbcabcdgblmnkaaBools
import Derived.Test.YtbcabcdgblmnkaaFrames
import Derived.Deep.RegionLaw
namespace Go.Proofs.Ytbcabcdgblmnkaa
open Go.RowKit
set_option linter.unusedVariables false
set_option linter.unusedSimpArgs false

theorem below_drewA {B : Nat} {a w : World} (h : Below B a w) : Below B a w.drew := ⟨h.os, h.tape, h.output, h.size, h.block⟩
theorem app_below {w w' : World} {o : Obj} {b : Nat} (hb : w.heap.size ≤ b) (hg : (w.drew.alloc o).grownBy w' (some b)) : Below w.heap.size w w' := by
  have h1 : Fr (fun _ => False) w (w.drew.alloc o) := (Fr.refl _ w).drew.alloc o
  have h2 : Fr (fun x => x = b) (w.drew.alloc o) w' := Fr.of_grown hg (fun k hk => .inl (by injection hk with hk; exact hk.symm))
  exact (h1.trans h2 (fun x hx => .inr (by omega))).below (Nat.le_refl _) (fun b h => h.elim)
theorem own_emptyS (w : World) (E : TypeId) (size B : Nat) (hB : B ≤ w.heap.size) : (w.alloc (.cells #[] E)).ownsRow B E size (.slice (some ⟨w.heap.size, 0, none⟩) 0 0) 0 [] := by
  have := World.ownsRow_lit (base := B) (e := E) (size := size) w #[] 0 hB (by unfold maxLen; omega) (by simp)
  simpa using this
/-- 'append(out, xs...)' as one step of a region that draws its order; xs whatever slice that reads. -/
theorem stepRS {P : Program} (B : Nat) (w : World) (size : Nat) (E : TypeId) {ops : Array Oper} {o : Oper} {a : Act} {K : Act → World → Prop} {Q : Exit → Act → World → Prop} {E' : Prop} (hgd : o.guard = none) (s x : Operand) (t : TypeId)
    (ho : o.op = .call { callee := .builtin .append, args := #[s, x], argTypes := #[t, t] })
    (i : TypeInfo) (z : Value) (bytes : Nat) (ht : P.underlying t = some (.slice E)) (hi : P.info? E = some i) (hz : i.zero = some z)
    (hsize : i.size = size) (hby : i.bytes = bytes) (hzs : z.cells.size = size) (hsz : 0 < size) (hb1 : 0 < bytes)
    (v : Value) (n : Nat) (xs : List Value) (hs : a.eval s = v) (hBw : B ≤ w.heap.size) (hown : w.ownsRow B E size v n xs)
    (A : Option Addr) (m c : Nat) (news : List Value) (hx : a.eval x = .slice A m c) (hrd : Rd w size A m news) (h1 : ∀ u ∈ news, u.oneCell' = true) (hbytes : (n + m) * bytes ≤ 140737488355328)
    (h : ∀ v' w', w'.ownsRow B E size v' (n + m) (xs ++ news) → w.grownBy w' v.ownBlock → K (a.put o.dst v') w') :
    if Region.wanted o (yielded ops a.tmps) = true then Oper.wp P o a w K Q else E' := by
  have hm : n + m ≤ (n + m) * bytes := Nat.le_mul_of_pos_right _ hb1
  have hw : Region.wanted o (yielded ops a.tmps) = true := by simp [Region.wanted, hgd]
  rw [if_pos hw]
  have hrun : ∃ v' w', (Builtin.append_ #[t, t] o.type #[v, .slice A m c]).run P w = .ok v' w' ∧ w'.ownsRow B E size v' (n + m) (xs ++ news) ∧ w.grownBy w' v.ownBlock := by
    rcases A with _ | ad
    · have hm0 : m = 0 := by
        rcases Nat.eq_zero_or_pos m with h0 | h0
        · exact h0
        · obtain ⟨_, _, h', _⟩ := hrd.2 h0
          cases h'
      subst hm0
      have hn : news = [] := List.eq_nil_of_length_eq_zero (by simpa using hrd.1)
      subst hn
      refine ⟨v, w, ?_, by simpa using hown, World.grownBy.refl w _⟩
      rcases hown.2 with ⟨rfl, rfl⟩ | ⟨g, cap, cur, rfl, _, _, hnc, _⟩
      · simp [Builtin.append_, run_underlying ht, sizeOf, typeInfo, hi, Builtin.lenOf, Builtin.firstCells]
      · simp [Builtin.append_, run_underlying ht, sizeOf, typeInfo, hi, Builtin.lenOf, Builtin.firstCells, hnc, storeCells]
    · obtain ⟨v', w', hr, h2, h3, _, _⟩ := run_append_own_at (P := P) (w := w) B t o.type E i z size bytes ht hi hz hsize hby hzs hsz v n xs hown ad m c news hrd.1 (by
        intro j u hu
        have hj : 0 < m := by
          have h1 := (List.getElem?_eq_some_iff.1 hu).1
          have h2 := hrd.1
          rcases Nat.eq_zero_or_pos m with h0 | h0
          · rw [h2, h0] at h1; simp at h1
          · exact h0
        obtain ⟨b, off, e, hc⟩ := hrd.2 hj
        injection e with e
        subst e
        rw [addr_add_none]
        exact hc j u hu) h1 (by unfold maxLen; omega) hbytes hBw
      exact ⟨v', w', hr, h2, h3⟩
  obtain ⟨v', w', hr, h2, h3⟩ := hrun
  unfold Oper.wp execOp
  simp only [ho, resolve, invoke, builtin, Sem.run_bind, Sem.run_pure, Result.andThen_ok, List.map_toArray, List.map_cons, List.map_nil, hs, hx, hr]
  exact h v' w' h2 h3

theorem boolL_one (xs : List Bool) : ∀ u ∈ boolL xs, u.oneCell' = true := by
  intro u hu
  obtain ⟨b, _, rfl⟩ := List.mem_map.1 hu
  rfl
theorem boolL_length (xs : List Bool) : (boolL xs).length = xs.length := by simp [boolL]
end Go.Proofs.Ytbcabcdgblmnkaa
