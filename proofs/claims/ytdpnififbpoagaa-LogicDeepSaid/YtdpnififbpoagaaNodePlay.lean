/- Contracts of package intern: Play; attestlaw10: few. -/
import Derived.Test.YtdpnififbpoagaaNodeSpec
import Derived.Test.YtdpnififbpoagaaOpen
namespace Go.Proofs.Ytdpnififbpoagaa
open Go.RowKit
set_option linter.unusedVariables false
set_option linter.unusedSimpArgs false

theorem Rd.takeS {w : World} {size n : Nat} {A : Option Addr} {xs : List Value} {k : Nat} (h : Rd w size A n xs) (hk : k ≤ n) (hs : 0 < size) : Rd w size A k (xs.take (k * size)) := by
  have hl : k * size ≤ n * size := Nat.mul_le_mul_right _ hk
  refine ⟨by rw [List.length_take, h.1]; omega, fun hn => ?_⟩
  obtain ⟨b, off, rfl, hcell⟩ := h.2 (by omega)
  refine ⟨b, off, rfl, fun j u hu => hcell j u ?_⟩
  rw [List.getElem?_take] at hu
  split at hu
  · exact hu
  · cases hu

/-- 'out = append(out, xs...)', elements of several cells; 'out' of the call's own, xs whatever slice that reads. -/
theorem appRS {P : Program} (B : Nat) (W0 w : World) (size : Nat) (E : TypeId) {ops : Array Oper} {rest : List Oper} {o : Oper} {a : Act} {Q : Exit → Act → World → Prop} (hgd : o.guard = none) (s x : Operand) (t : TypeId)
    (ho : o.op = .call { callee := .builtin .append, args := #[s, x], argTypes := #[t, t] })
    (i : TypeInfo) (z : Value) (bytes : Nat) (ht : P.underlying t = some (.slice E)) (hi : P.info? E = some i) (hz : i.zero = some z)
    (hsize : i.size = size) (hby : i.bytes = bytes) (hzs : z.cells.size = size) (hsz : 0 < size) (hb1 : 0 < bytes)
    (v : Value) (n : Nat) (xs : List Value) (hs : a.eval s = v) (hB : B ≤ W0.heap.size) (hown : w.ownsRow B E size v n xs) (hbel : Below B W0 w)
    (A : Option Addr) (m c : Nat) (news : List Value) (hx : a.eval x = .slice A m c) (hrd : Rd w size A m news) (h1 : ∀ u ∈ news, u.oneCell' = true) (hbytes : (n + m) * bytes ≤ 140737488355328)
    (h : ∀ v' w', w'.ownsRow B E size v' (n + m) (xs ++ news) → Below B W0 w' → w.grownBy w' v.ownBlock → wpList P ops Q rest (a.put o.dst v') w') :
    wpList P ops Q (o :: rest) a w := by
  have hm : n + m ≤ (n + m) * bytes := Nat.le_mul_of_pos_right _ hb1
  have hBw : B ≤ w.heap.size := Nat.le_trans hB hbel.size
  rcases A with _ | ad
  · have hm0 : m = 0 := by
      rcases Nat.eq_zero_or_pos m with h0 | h0
      · exact h0
      · obtain ⟨_, _, h', _⟩ := hrd.2 h0
        cases h'
    subst hm0
    have hn : news = [] := List.eq_nil_of_length_eq_zero (by simpa using hrd.1)
    subst hn
    have hh := h v w (by simpa using hown) hbel (World.grownBy.refl w _)
    exact appNone hgd s x t ho B E i size ht hi v n c xs hs hown hx hh
  · refine wpList_append_own w hgd s x t ho B E i z size bytes ht hi hz hsize hby hzs hsz v n xs hs hown ad m c news hx hrd.1 ?_ h1 (by unfold maxLen; omega) hbytes hBw ?_
    · intro j u hu
      have hj : 0 < m := by
        have h1 := (List.getElem?_eq_some_iff.1 hu).1
        have h2 := hrd.1
        rcases Nat.eq_zero_or_pos m with h0 | h0
        · rw [h2, h0] at h1; simp at h1
        · exact h0
      obtain ⟨b, off, e, hc⟩ := hrd.2 hj
      injection e with e
      subst e
      rw [addr_add_none]
      exact hc j u hu
    · intro v' w' hown' hg _
      exact h v' w' hown' (hbel.grown hg hBw (fun k hk => (hown.lt k hk).1)) hg

theorem own_emptyS (w : World) (E : TypeId) (size B : Nat) (hB : B ≤ w.heap.size) : (w.alloc (.cells #[] E)).ownsRow B E size (.slice (some ⟨w.heap.size, 0, none⟩) 0 0) 0 [] := by
  have := World.ownsRow_lit (base := B) (e := E) (size := size) w #[] 0 hB (by unfold maxLen; omega) (by simp)
  simpa using this

theorem info_op : (Try.prog.info? 36).map (fun i => (i.zero, i.size, i.bytes)) = some (some (.agg #[.int .i64 0, .int .i64 0, .int .i64 0]), 3, 24) := by kernel_rfl
theorem ndCells_one' (ns : List Nd) : ∀ u ∈ ndCells ns, u.oneCell' = true := by
  intro u hu
  simp [ndCells] at hu
  obtain ⟨n, _, rfl | rfl | rfl⟩ := hu <;> rfl
theorem ndCells_take (ns : List Nd) (k : Nat) : (ndCells ns).take (k * 3) = ndCells (ns.take k) := by
  induction ns generalizing k with
  | nil => simp [ndCells]
  | cons n ns ih =>
    cases k with
    | zero => simp [ndCells]
    | succ k =>
      have e : (k + 1) * 3 = k * 3 + 1 + 1 + 1 := by omega
      have h := ih k
      simp only [ndCells, List.flatMap_cons, List.cons_append, List.nil_append, List.take_succ_cons, e] at h ⊢
      rw [h]

theorem few_any (os : List Nd) (A : Option Addr) (n c : Nat) (w : World) (hl : os.length = n) (hnc : n ≤ c) (hc : c ≤ maxLen) (hr : Rd w 3 A n (ndCells os)) :
    Calls Try.prog 15 #[.slice A n c] w fun e w' => ∃ v, e = .returned v ∧ w'.ownsRow w.heap.size 36 3 v (os.take 200).length (ndCells (os.take 200)) ∧ Below w.heap.size w w' := by
  obtain ⟨i0, hi, hz0, hz1, hz2⟩ := info_parts info_op
  unfold maxLen at hc
  by_cases h : 200 < n
  · have hr2 := hr.takeS (k := 200) (by omega) (by decide)
    rw [ndCells_take] at hr2
    have hl2 : (os.take 200).length = 200 := by rw [List.length_take]; omega
    rw [hl2]
    have h200 : (200 : Int) < (n : Int) := by omega
    have h200c : 200 ≤ c := by omega
    clear hr hl
    go_enter Try.func15, Try.ntmps15
    go_wp2_with (at_builtin; refine appRS w.heap.size w (w.alloc (.cells #[] 36)) 3 36 rfl _ _ 22 rfl i0 _ 24 Try.underlying22 hi hz0 hz1 hz2 rfl (by decide) (by decide) _ 0 [] rfl (Nat.le_refl _) (own_emptyS _ _ _ _ (Nat.le_refl _)) ((Below.refl _ _).alloc (Nat.le_refl _) _) A 200 c _ rfl (hr2.alloc _) (ndCells_one' _) (by omega) ?_)
    intro v' w' hown' hb' _
    go_wp2_with fail
    go_ret
    exact ⟨v', rfl, by simpa using hown', hb'⟩
  · rw [List.take_of_length_le (by omega), hl]
    have h200 : ¬ (200 : Int) < (n : Int) := by omega
    go_enter Try.func15, Try.ntmps15
    go_wp2_with (at_builtin; refine appRS w.heap.size w (w.alloc (.cells #[] 36)) 3 36 rfl _ _ 22 rfl i0 _ 24 Try.underlying22 hi hz0 hz1 hz2 rfl (by decide) (by decide) _ 0 [] rfl (Nat.le_refl _) (own_emptyS _ _ _ _ (Nat.le_refl _)) ((Below.refl _ _).alloc (Nat.le_refl _) _) A n c _ rfl (hr.alloc _) (ndCells_one' _) (by omega) ?_)
    intro v' w' hown' hb' _
    go_wp2_with fail
    go_ret
    exact ⟨v', rfl, by simpa using hown', hb'⟩
end Go.Proofs.Ytdpnififbpoagaa
