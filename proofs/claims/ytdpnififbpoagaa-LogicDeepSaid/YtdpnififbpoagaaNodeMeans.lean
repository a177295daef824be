/- attestlaw10.InternMeans. -/
import Derived.Test.YtdpnififbpoagaaNodeShares
import Derived.Test.YtdpnififbpoagaaNodeEval
import Derived.Deep.DeepCutAuto
namespace Go.Proofs.Ytdpnififbpoagaa
open Go.RowKit
set_option linter.unusedVariables false
set_option linter.unusedSimpArgs false

/-- 'append(out, xs...)' as one step of a region that draws its order; xs whatever slice that reads. -/
theorem stepRS {P : Program} (B : Nat) (w : World) (size : Nat) (E : TypeId) {ops : Array Oper} {o : Oper} {a : Act} {K : Act → World → Prop} {Q : Exit → Act → World → Prop} {E' : Prop} (hgd : o.guard = none) (s x : Operand) (t : TypeId)
    (ho : o.op = .call { callee := .builtin .append, args := #[s, x], argTypes := #[t, t] })
    (i : TypeInfo) (z : Value) (bytes : Nat) (ht : P.underlying t = some (.slice E)) (hi : P.info? E = some i) (hz : i.zero = some z)
    (hsize : i.size = size) (hby : i.bytes = bytes) (hzs : z.cells.size = size) (hsz : 0 < size) (hb1 : 0 < bytes)
    (v : Value) (n : Nat) (xs : List Value) (hs : a.eval s = v) (hBw : B ≤ w.heap.size) (hown : w.ownsRow B E size v n xs)
    (A : Option Addr) (m c : Nat) (news : List Value) (hx : a.eval x = .slice A m c) (hrd : Rd w size A m news) (h1 : ∀ u ∈ news, u.oneCell' = true) (hbytes : (n + m) * bytes ≤ 140737488355328)
    (h : ∀ v' w', w'.ownsRow B E size v' (n + m) (xs ++ news) → w.grownBy w' v.ownBlock → K (a.put o.dst v') w') :
    if Region.wanted o (yielded ops a.tmps) = true then Oper.wp P o a w K Q else E' := by
  have hm : n + m ≤ (n + m) * bytes := Nat.le_mul_of_pos_right _ hb1
  have hw : Region.wanted o (yielded ops a.tmps) = true := by simp [Region.wanted, hgd]
  rw [if_pos hw]
  have hrun : ∃ v' w', (Builtin.append_ #[t, t] o.type #[v, .slice A m c]).run P w = .ok v' w' ∧ w'.ownsRow B E size v' (n + m) (xs ++ news) ∧ w.grownBy w' v.ownBlock := by
    rcases A with _ | ad
    · have hm0 : m = 0 := by
        rcases Nat.eq_zero_or_pos m with h0 | h0
        · exact h0
        · obtain ⟨_, _, h', _⟩ := hrd.2 h0
          cases h'
      subst hm0
      have hn : news = [] := List.eq_nil_of_length_eq_zero (by simpa using hrd.1)
      subst hn
      refine ⟨v, w, ?_, by simpa using hown, World.grownBy.refl w _⟩
      rcases hown.2 with ⟨rfl, rfl⟩ | ⟨g, cap, cur, rfl, _, _, hnc, _⟩
      · simp [Builtin.append_, run_underlying ht, sizeOf, typeInfo, hi, Builtin.lenOf, Builtin.firstCells]
      · simp [Builtin.append_, run_underlying ht, sizeOf, typeInfo, hi, Builtin.lenOf, Builtin.firstCells, hnc, storeCells]
    · obtain ⟨v', w', hr, h2, h3, _, _⟩ := run_append_own_at (P := P) (w := w) B t o.type E i z size bytes ht hi hz hsize hby hzs hsz v n xs hown ad m c news hrd.1 (by
        intro j u hu
        have hj : 0 < m := by
          have h1 := (List.getElem?_eq_some_iff.1 hu).1
          have h2 := hrd.1
          rcases Nat.eq_zero_or_pos m with h0 | h0
          · rw [h2, h0] at h1; simp at h1
          · exact h0
        obtain ⟨b, off, e, hc⟩ := hrd.2 hj
        injection e with e
        subst e
        rw [addr_add_none]
        exact hc j u hu) h1 (by unfold maxLen; omega) hbytes hBw
      exact ⟨v', w', hr, h2, h3⟩
  obtain ⟨v', w', hr, h2, h3⟩ := hrun
  unfold Oper.wp execOp
  simp only [ho, resolve, invoke, builtin, Sem.run_bind, Sem.run_pure, Result.andThen_ok, List.map_toArray, List.map_cons, List.map_nil, hs, hx, hr]
  exact h v' w' h2 h3

theorem boolL_one (xs : List Bool) : ∀ u ∈ boolL xs, u.oneCell' = true := by
  intro u hu
  obtain ⟨b, _, rfl⟩ := List.mem_map.1 hu
  rfl
theorem boolL_length (xs : List Bool) : (boolL xs).length = xs.length := by simp [boolL]

/-- Eval at whatever number. -/
theorem eval_any (tb mb : Nat) (sv : Value) (ns : List Nd) (i : Int) (vals : List Bool) (A : Option Addr) (n c : Nat) (w : World) (h : Tab w tb mb sv ns) (hG : Good ns) (hl : vals.length = n) (hr : Rd w 1 A n (boolL vals)) :
    Calls Try.prog 21 #[.pointer (some ⟨tb, 0, none⟩), .int .i64 i, .slice A n c] w fun e w' => e = .returned (.tuple #[.bool (inB ns i && ev ns vals i.toNat), .bool (inB ns i)]) ∧ Below w.heap.size w w' := by
  cases hi : inB ns i with
  | false =>
    refine (eval_out tb mb sv ns i A n c w h hi).mono ?_
    rintro e w' ⟨rfl, rfl⟩
    exact ⟨rfl, Below.refl _ _⟩
  | true =>
    have hlt := inB_nat hi
    obtain ⟨k, rfl⟩ : ∃ k : Nat, i = k := ⟨i.toNat, by simp [inB] at hi; omega⟩
    exact eval_in tb mb sv ns k vals A n c w h hG (by simpa using hlt) hl hr

theorem put_none (ns : List Nd) (n : Nd) (h : (putN ns n).2 = none) : (putN ns n).1 = ns := by
  unfold putN at *
  cases hf : fidx ns n 0 with
  | some i => simp
  | none =>
    rw [hf] at h
    by_cases hm : ns.length < 20000
    · simp [hm] at h
    · simp [hm]
theorem do_none (ns : List Nd) (o : Nd) (h : (doN ns o).2 = none) : (doN ns o).1 = ns := by
  revert h
  unfold doN notN pairN
  repeat' split
  all_goals (intro h; first | rfl | exact put_none _ _ h)
theorem len_put (ns : List Nd) (n : Nd) : (putN ns n).1.length ≤ ns.length + 1 := by
  unfold putN
  cases fidx ns n 0 with
  | some i => simp
  | none => by_cases hm : ns.length < 20000 <;> simp [hm]
theorem len_do (ns : List Nd) (o : Nd) : (doN ns o).1.length ≤ ns.length + 1 := by
  unfold doN notN pairN
  repeat' split
  all_goals first | exact len_put _ _ | simp
theorem len_nodes (os : List Nd) (s : List Nd × List Int) : (os.foldl stepP s).1.length ≤ s.1.length + os.length := by
  induction os generalizing s with
  | nil => simp
  | cons o os ih =>
    have h1 := ih (stepP s o)
    have h2 := len_do s.1 o
    simp only [List.foldl_cons, List.length_cons]
    simp only [stepP] at *
    omega
theorem len_playN (os : List Nd) : (playN os).1.length ≤ os.length + 2 := by
  have := len_nodes os (ns0, [])
  have h0 : ns0.length = 2 := rfl
  unfold playN
  simp only [h0] at this
  omega

/-- what is known of the table, of the operation, and of its answer. -/
structure MeansPre (ns ns' : List Nd) (vals : List Bool) (o : Nd) (xa ina xb inb ok got : Bool) (j : Nat) : Prop where
  good : Good ns
  good' : Good ns'
  jlt : j < ns'.length
  geq : got = ev ns' vals j
  may : ok = mayN ns o
  want : ok = true → got = wantN ns vals o
  none : ok = false → j = 0 ∧ ns'.length = ns.length
  ea : xa = (inB ns o.a && ev ns vals o.a.toNat)
  ia : ina = inB ns o.a
  eb : xb = (inB ns o.b && ev ns vals o.b.toNat)
  ib : inb = inB ns o.b
section
variable {ns ns' : List Nd} {vals : List Bool} {a b : Int} {xa ina xb inb ok got : Bool} {j : Nat}
theorem MeansPre.k1 (h : MeansPre ns ns' vals ⟨1, a, b⟩ xa ina xb inb ok got j) : ok = true ∧ got = false := by
  have h1 : ok = true := by rw [h.may]; rfl
  exact ⟨h1, by rw [h.want h1]; simp [wantN]⟩
theorem MeansPre.k2 (h : MeansPre ns ns' vals ⟨2, a, b⟩ xa ina xb inb ok got j) : ok = true ∧ got = true := by
  have h1 : ok = true := by rw [h.may]; rfl
  exact ⟨h1, by rw [h.want h1]; simp [wantN]⟩
theorem MeansPre.k3 (h : MeansPre ns ns' vals ⟨3, a, b⟩ xa ina xb inb ok got j) : ok = decide (0 ≤ a) ∧ (0 ≤ a → got = vals.getD a.toNat false) := by
  have h1 : ok = decide (0 ≤ a) := by rw [h.may]; simp [mayN]
  exact ⟨h1, fun ha => by rw [h.want (h1.trans (decide_eq_true ha))]; simp [wantN, ha]⟩
theorem MeansPre.k4 (h : MeansPre ns ns' vals ⟨4, a, b⟩ xa ina xb inb ok got j) : ok = ina ∧ (ok = true → got = !xa) := by
  exact ⟨by rw [h.may, h.ia]; simp [mayN], fun hk => by rw [h.want hk, h.ea]; simp [wantN]⟩
theorem MeansPre.k5 (h : MeansPre ns ns' vals ⟨5, a, b⟩ xa ina xb inb ok got j) : ok = (ina && inb) ∧ (ok = true → got = (xa && xb)) := by
  exact ⟨by rw [h.may, h.ia, h.ib]; simp [mayN], fun hk => by rw [h.want hk, h.ea, h.eb]; simp [wantN]⟩
theorem MeansPre.k6 (h : MeansPre ns ns' vals ⟨6, a, b⟩ xa ina xb inb ok got j) : ok = (ina && inb) ∧ (ok = true → got = (xa || xb)) := by
  exact ⟨by rw [h.may, h.ia, h.ib]; simp [mayN], fun hk => by rw [h.want hk, h.ea, h.eb]; simp [wantN]⟩
theorem MeansPre.k7 {k : Int} (h : MeansPre ns ns' vals ⟨k, a, b⟩ xa ina xb inb ok got j) (h1 : ¬ k = 1) (h2 : ¬ k = 2) (h3 : ¬ k = 3) (h4 : ¬ k = 4) (h5 : ¬ k = 5) (h6 : ¬ k = 6) : ok = false := by
  rw [h.may]
  simp [mayN, h1, h2, h3, h4, h5, h6]
end
theorem means_pre (ns : List Nd) (vals : List Bool) (o : Nd) (h : Good ns) (hl : ns.length < 20000) : ∃ xa ina xb inb ok got j, MeansPre ns (doN ns o).1 vals o xa ina xb inb ok got j ∧ ok = (doN ns o).2.isSome ∧ j = (doN ns o).2.getD 0 := by
  have hg' := h.doN o
  refine ⟨_, _, _, _, _, _, _, ⟨h, hg', ?_, rfl, (do_may ns o hl).symm ▸ rfl, ?_, ?_, rfl, rfl, rfl, rfl⟩, (do_may ns o hl).symm, rfl⟩
  · cases hq : (doN ns o).2 with
    | some j => exact (do_ev h vals o j hq).1
    | none => have := hg'.two; simp; omega
  · intro hok
    rw [← do_may ns o hl] at hok
    cases hq : (doN ns o).2 with
    | some j => exact (do_ev h vals o j hq).2
    | none => rw [hq] at hok; cases hok
  · intro hok
    rw [← do_may ns o hl] at hok
    cases hq : (doN ns o).2 with
    | some j => rw [hq] at hok; cases hok
    | none => exact ⟨rfl, by rw [do_none ns o hq]⟩
end Go.Proofs.Ytdpnififbpoagaa
