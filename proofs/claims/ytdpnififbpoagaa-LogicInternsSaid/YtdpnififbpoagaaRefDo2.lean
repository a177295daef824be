/- Contract of package attestref10: Do. -/
import Derived.Test.YtdpnififbpoagaaRefDo
namespace Go.Proofs.Ytdpnififbpoagaa
open Go.RowKit
set_option linter.unusedVariables false
set_option linter.unusedSimpArgs false

theorem notN_0 {ns : List Nd} (h : Good ns) : notN ns 0 = (ns, some 1) := by
  unfold notN
  rw [h.n0]
  rfl
theorem notN_1 {ns : List Nd} (h : Good ns) : notN ns 1 = (ns, some 0) := by
  unfold notN
  rw [h.n1]
  rfl
theorem Good.kind {ns : List Nd} (h : Good ns) (m : Nat) (h2 : 2 ≤ m) (hm : m < ns.length) : (nd ns m).k ≠ 1 ∧ (nd ns m).k ≠ 2 := by
  rcases h.parts m h2 hm with ⟨h1, _⟩ | ⟨h1, _⟩ | ⟨h1, _⟩
  · exact ⟨by omega, by omega⟩
  · exact ⟨by omega, by omega⟩
  · exact ⟨by omega, by omega⟩
theorem notN_4 {ns : List Nd} (h : Good ns) (m : Nat) (h2 : 2 ≤ m) (hm : m < ns.length) : notN ns m = if (nd ns m).k = 4 then (ns, some (nd ns m).a.toNat) else putN ns ⟨4, m, 0⟩ := by
  obtain ⟨h3, h4⟩ := h.kind m h2 hm
  unfold notN
  rw [if_neg h3, if_neg h4]

set_option maxRecDepth 100000 in
set_option maxHeartbeats 8000000 in
theorem rnot4 (B : Nat) (v : Value) (ns : List Nd) (m : Nat) (b : Int) (w : World) (hB : B ≤ w.heap.size) (hG : Good ns) (hm : m < ns.length) (ho : w.ownsRow B 34 3 v ns.length (ndCells ns)) :
    Calls Try.prog 46 #[v, .agg #[.int .i64 4, .int .i64 (m : Int), .int .i64 b]] w fun e w' => ∃ v', e = .returned (.tuple #[v', .int .i64 (ansI (notN ns m).2)]) ∧ RAf B v w w' v' (notN ns m).1 := by
  have pre := rpre B v ns ⟨4,(m:Int),b⟩ w hB ho
  have h2 := hG.two
  have hmost := hG.most
  have hl0 : 0 < ns.length := by omega
  have hl1 : 1 < ns.length := by omega
  have hl1' : (1 : Int) < ns.length := by omega
  obtain ⟨g, c, rfl, hgB, hg, hc⟩ := owned_form ho (by omega)
  obtain ⟨A, c', e, _, hr⟩ := ownsRow_form ho
  injection e with e1 e2 e3
  subst e1
  subst e3
  clear e2
  simp only at pre
  have hrd := hr.below ((Below.refl _ _).alloc (Nat.le_refl _) (.cells #[.int .i64 4, .int .i64 (m : Int), .int .i64 b] 34))
  have PRE := Lib.hid pre
  clear pre ho hr
  by_cases h0 : m = 0
  · subst h0
    rw [notN_0 hG]
    clear hG hrd
    go_enter Try.func46, Try.ntmps46
    go_wp2_with ((go_at_call 65; refine (HP.out _ PRE.out.own1 PRE.out.le).mono ?_; rintro e w' ⟨v', rfl, haft⟩))
    all_goals (first | go_quiet (fail) | skip)
    all_goals go_wp2_with fail
    all_goals go_ret2
    all_goals (first | exact ⟨_, rfl, PRE.out.same0⟩ | exact ⟨_, rfl, PRE.out.same _⟩)
  by_cases h1 : m = 1
  · subst h1
    rw [notN_1 hG]
    clear hG hrd
    go_enter Try.func46, Try.ntmps46
    go_wp2_with ((go_at_call 65; refine (HP.out _ PRE.out.own1 PRE.out.le).mono ?_; rintro e w' ⟨v', rfl, haft⟩))
    all_goals (first | go_quiet (fail) | skip)
    all_goals go_wp2_with fail
    all_goals go_ret2
    all_goals (first | exact ⟨_, rfl, PRE.out.same0⟩ | exact ⟨_, rfl, PRE.out.same _⟩)
  have h2' : 2 ≤ m := by omega
  rw [notN_4 hG m h2' hm]
  obtain ⟨x0, x1, x2⟩ := hrd.nd3' m hm rfl
  simp only [Nat.zero_add] at x0 x1 x2
  have hneg := hG.neg m hm
  clear hG hrd
  have h2'' : ¬ (m : Int) < 2 := by omega
  clear h0 h1
  generalize nd ns m = X at *
  obtain ⟨xk, xa, xb⟩ := X
  simp only at x0 x1 x2 hneg ⊢
  by_cases k4 : xk = 4
  · subst k4
    have := hneg rfl
    obtain ⟨p, rfl⟩ : ∃ p : Nat, xa = p := ⟨xa.toNat, by omega⟩
    rw [if_pos rfl, Int.toNat_natCast]
    clear hneg
    go_enter Try.func46, Try.ntmps46
    go_wp2_with ((go_at_call 65; refine (HP.out _ PRE.out.own1 PRE.out.le).mono ?_; rintro e w' ⟨v', rfl, haft⟩))
    all_goals (first | go_quiet (fail) | skip)
    all_goals go_wp2_with fail
    all_goals go_ret2
    all_goals (first | exact ⟨_, rfl, PRE.out.same0⟩ | exact ⟨_, rfl, PRE.out.same _⟩)
  · rw [if_neg k4]
    clear hneg
    have hp := fun (W : World) h (hB : B ≤ W.heap.size) => rfind_any B (.slice (some ⟨g, 0, none⟩) ns.length c) ns ⟨4,(m:Int),0⟩ W hB h2 hmost h
    have HP := Lib.hid hp
    clear hp
    go_enter Try.func46, Try.ntmps46
    go_wp2_with ((go_at_call 65; refine (HP.out _ PRE.out.own1 PRE.out.le).mono ?_; rintro e w' ⟨v', rfl, haft⟩))
    all_goals go_ret2
    all_goals exact ⟨_, rfl, haft.drop PRE.out.bel⟩

set_option maxRecDepth 100000 in
set_option maxHeartbeats 8000000 in
theorem rdo_any (B : Nat) (v : Value) (ns : List Nd) (o : Nd) (w : World) (hB : B ≤ w.heap.size) (hG : Good ns) (ho : w.ownsRow B 34 3 v ns.length (ndCells ns)) :
    Calls Try.prog 46 #[v, .agg #[.int .i64 o.k, .int .i64 o.a, .int .i64 o.b]] w fun e w' => ∃ v', e = .returned (.tuple #[v', .int .i64 (ansI (doN ns o).2)]) ∧ RAf B v w w' v' (doN ns o).1 := by
  obtain ⟨k, a, b⟩ := o
  have R4 := fun m hm => rnot4 B v ns m b w hB hG hm ho
  have R5 := fun m n hm hn => rpair5 B v ns m n w hB hG hm hn ho
  have R6 := fun m n hm hn => rpair6 B v ns m n w hB hG hm hn ho
  have pre := rpre B v ns ⟨k,a,b⟩ w hB ho
  have h2 := hG.two
  have hmost := hG.most
  have hl0 : 0 < ns.length := by omega
  have hl1 : 1 < ns.length := by omega
  have hl1' : (1 : Int) < ns.length := by omega
  obtain ⟨g, c, rfl, hgB, hg, hc⟩ := owned_form ho (by omega)
  obtain ⟨A, c', e, _, hr⟩ := ownsRow_form ho
  injection e with e1 e2 e3
  subst e1
  subst e3
  clear e2
  simp only at pre
  have PRE := Lib.hid pre
  clear ho hG pre hr
  unfold doN
  simp only at PRE ⊢
  by_cases k1 : k = 1
  · subst k1
    clear R4 R5 R6
    simp only [if_true]
    go_enter Try.func46, Try.ntmps46
    go_wp2_with ((go_at_call 65; refine (HP.out _ PRE.out.own1 PRE.out.le).mono ?_; rintro e w' ⟨v', rfl, haft⟩))
    all_goals go_ret2
    all_goals exact ⟨_, rfl, PRE.out.same0⟩
  by_cases k2 : k = 2
  · subst k2
    clear R4 R5 R6
    simp only [k1, if_false, if_true]
    go_enter Try.func46, Try.ntmps46
    go_wp2_with ((go_at_call 65; refine (HP.out _ PRE.out.own1 PRE.out.le).mono ?_; rintro e w' ⟨v', rfl, haft⟩))
    all_goals go_ret2
    all_goals exact ⟨_, rfl, PRE.out.same0⟩
  by_cases k3 : k = 3
  · subst k3
    clear R4 R5 R6
    simp only [k1, k2, if_false, if_true]
    by_cases ha : 0 ≤ a
    · simp only [ha, if_true]
      have hp := fun (W : World) h (hB : B ≤ W.heap.size) => rfind_any B (.slice (some ⟨g, 0, none⟩) ns.length c) ns ⟨3,a,0⟩ W hB h2 hmost h
      have HP := Lib.hid hp
      clear hp
      go_enter Try.func46, Try.ntmps46
      go_wp2_with ((go_at_call 65; refine (HP.out _ PRE.out.own1 PRE.out.le).mono ?_; rintro e w' ⟨v', rfl, haft⟩))
      all_goals go_ret2
      all_goals exact ⟨_, rfl, haft.drop PRE.out.bel⟩
    · simp only [ha, if_false]
      go_enter Try.func46, Try.ntmps46
      go_wp2_with ((go_at_call 65; refine (HP.out _ PRE.out.own1 PRE.out.le).mono ?_; rintro e w' ⟨v', rfl, haft⟩))
      all_goals go_ret2
      all_goals exact ⟨_, rfl, PRE.out.same0⟩
  by_cases k4 : k = 4
  · subst k4
    clear R5 R6
    simp only [k1, k2, k3, if_false, if_true]
    cases ha : inB ns a with
    | false =>
      clear R4
      simp only [Bool.false_eq_true, if_false]
      have ho : a < 0 ∨ (ns.length : Int) ≤ a := by simp [inB] at ha; omega
      clear ha
      rcases ho with ho | ho
      · have ho' : ¬ 0 ≤ a := by omega
        go_enter Try.func46, Try.ntmps46
        go_wp2_with ((go_at_call 65; refine (HP.out _ PRE.out.own1 PRE.out.le).mono ?_; rintro e w' ⟨v', rfl, haft⟩))
        all_goals go_ret2
        all_goals exact ⟨_, rfl, PRE.out.same0⟩
      · have ho' : ¬ a < ns.length := by omega
        have ho'' : 0 ≤ a := by omega
        go_enter Try.func46, Try.ntmps46
        go_wp2_with ((go_at_call 65; refine (HP.out _ PRE.out.own1 PRE.out.le).mono ?_; rintro e w' ⟨v', rfl, haft⟩))
        all_goals go_ret2
        all_goals exact ⟨_, rfl, PRE.out.same0⟩
    | true =>
      simp only [if_true]
      obtain ⟨m, rfl⟩ : ∃ m : Nat, a = m := ⟨a.toNat, by simp [inB] at ha; omega⟩
      have hm : m < ns.length := by simp [inB] at ha; omega
      clear ha
      rw [Int.toNat_natCast]
      exact R4 m hm
  by_cases k5 : k = 5
  · subst k5
    clear R4 R6
    simp only [k1, k2, k3, k4, if_false, if_true]
    cases ha : inB ns a with
    | false =>
      clear R5
      simp only [Bool.false_and, Bool.false_eq_true, if_false]
      have ho : a < 0 ∨ (ns.length : Int) ≤ a := by simp [inB] at ha; omega
      clear ha
      rcases ho with ho | ho
      · have ho' : ¬ 0 ≤ a := by omega
        go_enter Try.func46, Try.ntmps46
        go_wp2_with ((go_at_call 65; refine (HP.out _ PRE.out.own1 PRE.out.le).mono ?_; rintro e w' ⟨v', rfl, haft⟩))
        all_goals go_ret2
        all_goals exact ⟨_, rfl, PRE.out.same0⟩
      · have ho' : ¬ a < ns.length := by omega
        have ho'' : 0 ≤ a := by omega
        go_enter Try.func46, Try.ntmps46
        go_wp2_with ((go_at_call 65; refine (HP.out _ PRE.out.own1 PRE.out.le).mono ?_; rintro e w' ⟨v', rfl, haft⟩))
        all_goals go_ret2
        all_goals exact ⟨_, rfl, PRE.out.same0⟩
    | true =>
      obtain ⟨m, rfl⟩ : ∃ m : Nat, a = m := ⟨a.toNat, by simp [inB] at ha; omega⟩
      have hm : m < ns.length := by simp [inB] at ha; omega
      clear ha
      cases hb : inB ns b with
      | false =>
        clear R5
        simp only [Bool.and_false, Bool.false_eq_true, if_false]
        have ho : b < 0 ∨ (ns.length : Int) ≤ b := by simp [inB] at hb; omega
        clear hb
        rcases ho with ho | ho
        · have ho' : ¬ 0 ≤ b := by omega
          go_enter Try.func46, Try.ntmps46
          go_wp2_with ((go_at_call 65; refine (HP.out _ PRE.out.own1 PRE.out.le).mono ?_; rintro e w' ⟨v', rfl, haft⟩))
          all_goals go_ret2
          all_goals exact ⟨_, rfl, PRE.out.same0⟩
        · have ho' : ¬ b < ns.length := by omega
          have ho'' : 0 ≤ b := by omega
          go_enter Try.func46, Try.ntmps46
          go_wp2_with ((go_at_call 65; refine (HP.out _ PRE.out.own1 PRE.out.le).mono ?_; rintro e w' ⟨v', rfl, haft⟩))
          all_goals go_ret2
          all_goals exact ⟨_, rfl, PRE.out.same0⟩
      | true =>
        obtain ⟨n, rfl⟩ : ∃ m : Nat, b = m := ⟨b.toNat, by simp [inB] at hb; omega⟩
        have hn : n < ns.length := by simp [inB] at hb; omega
        clear hb
        simp only [Bool.and_self, if_true, Int.toNat_natCast]
        exact R5 m n hm hn
  by_cases k6 : k = 6
  · subst k6
    clear R4 R5
    simp only [k1, k2, k3, k4, k5, if_false, if_true]
    cases ha : inB ns a with
    | false =>
      clear R6
      simp only [Bool.false_and, Bool.false_eq_true, if_false]
      have ho : a < 0 ∨ (ns.length : Int) ≤ a := by simp [inB] at ha; omega
      clear ha
      rcases ho with ho | ho
      · have ho' : ¬ 0 ≤ a := by omega
        go_enter Try.func46, Try.ntmps46
        go_wp2_with ((go_at_call 65; refine (HP.out _ PRE.out.own1 PRE.out.le).mono ?_; rintro e w' ⟨v', rfl, haft⟩))
        all_goals go_ret2
        all_goals exact ⟨_, rfl, PRE.out.same0⟩
      · have ho' : ¬ a < ns.length := by omega
        have ho'' : 0 ≤ a := by omega
        go_enter Try.func46, Try.ntmps46
        go_wp2_with ((go_at_call 65; refine (HP.out _ PRE.out.own1 PRE.out.le).mono ?_; rintro e w' ⟨v', rfl, haft⟩))
        all_goals go_ret2
        all_goals exact ⟨_, rfl, PRE.out.same0⟩
    | true =>
      obtain ⟨m, rfl⟩ : ∃ m : Nat, a = m := ⟨a.toNat, by simp [inB] at ha; omega⟩
      have hm : m < ns.length := by simp [inB] at ha; omega
      clear ha
      cases hb : inB ns b with
      | false =>
        clear R6
        simp only [Bool.and_false, Bool.false_eq_true, if_false]
        have ho : b < 0 ∨ (ns.length : Int) ≤ b := by simp [inB] at hb; omega
        clear hb
        rcases ho with ho | ho
        · have ho' : ¬ 0 ≤ b := by omega
          go_enter Try.func46, Try.ntmps46
          go_wp2_with ((go_at_call 65; refine (HP.out _ PRE.out.own1 PRE.out.le).mono ?_; rintro e w' ⟨v', rfl, haft⟩))
          all_goals go_ret2
          all_goals exact ⟨_, rfl, PRE.out.same0⟩
        · have ho' : ¬ b < ns.length := by omega
          have ho'' : 0 ≤ b := by omega
          go_enter Try.func46, Try.ntmps46
          go_wp2_with ((go_at_call 65; refine (HP.out _ PRE.out.own1 PRE.out.le).mono ?_; rintro e w' ⟨v', rfl, haft⟩))
          all_goals go_ret2
          all_goals exact ⟨_, rfl, PRE.out.same0⟩
      | true =>
        obtain ⟨n, rfl⟩ : ∃ m : Nat, b = m := ⟨b.toNat, by simp [inB] at hb; omega⟩
        have hn : n < ns.length := by simp [inB] at hb; omega
        clear hb
        simp only [Bool.and_self, if_true, Int.toNat_natCast]
        exact R6 m n hm hn
  · clear R4 R5 R6
    simp only [k1, k2, k3, k4, k5, k6, if_false]
    go_enter Try.func46, Try.ntmps46
    go_wp2_with ((go_at_call 65; refine (HP.out _ PRE.out.own1 PRE.out.le).mono ?_; rintro e w' ⟨v', rfl, haft⟩))
    all_goals go_ret2
    all_goals exact ⟨_, rfl, PRE.out.same0⟩
end Go.Proofs.Ytdpnififbpoagaa
