/- Contract of package attestref10: Do. -/
import Derived.Test.YtbcabcdgblmnkaaRefNode
namespace Go.Proofs.Ytbcabcdgblmnkaa
open Go.RowKit
set_option linter.unusedVariables false
set_option linter.unusedSimpArgs false

theorem RAf.drop {B : Nat} {v : Value} {w w1 w' : World} {v' : Value} {ns : List Nd} (hb : Below w.heap.size w w1) (h : RAf B v w1 w' v' ns) : RAf B v w w' v' ns :=
  ⟨h.own, (Fr.of_below hb).trans h.fr (fun b hb => .inl hb), fun b h' => (h.loc b h').imp id (fun h2 => Nat.le_trans hb.size h2)⟩
def opp1 (ns : List Nd) (a b : Int) : Bool := decide ((nd ns a.toNat).k = 4) && decide ((nd ns a.toNat).a = b)
structure RPre (B : Nat) (v : Value) (ns : List Nd) (o : Nd) (w W1 : World) : Prop where
  own : w.ownsRow B 108 3 v ns.length (ndCells ns)
  own1 : W1.ownsRow B 108 3 v ns.length (ndCells ns)
  bel : Below w.heap.size w W1
  le : B ≤ W1.heap.size
theorem rpre (B : Nat) (v : Value) (ns : List Nd) (o : Nd) (w : World) (hB : B ≤ w.heap.size) (ho : w.ownsRow B 108 3 v ns.length (ndCells ns)) :
    RPre B v ns o w (w.alloc (.cells #[.int .i64 o.k, .int .i64 o.a, .int .i64 o.b] 108)) :=
  ⟨ho, ho.alloc _, (Below.refl _ _).alloc (Nat.le_refl _) _, by simp; omega⟩
theorem RPre.same0 {B : Nat} {v : Value} {ns : List Nd} {o : Nd} {w W1 : World} (h : RPre B v ns o w W1) : RAf B v w W1 v ns := RAf.same h.own h.bel
theorem RPre.same {B : Nat} {v : Value} {ns : List Nd} {o : Nd} {w W1 : World} (h : RPre B v ns o w W1) (q : Nat) : RAf B v w (W1.drewN q) v ns := RAf.same h.own (below_drewN h.bel q)

set_option maxRecDepth 100000 in
set_option maxHeartbeats 8000000 in
theorem rpair5 (B : Nat) (v : Value) (ns : List Nd) (m n : Nat) (w : World) (hB : B ≤ w.heap.size) (hG : Good ns) (hm : m < ns.length) (hn : n < ns.length) (ho : w.ownsRow B 108 3 v ns.length (ndCells ns)) :
    Calls Try.prog 73 #[v, .agg #[.int .i64 5, .int .i64 (m : Int), .int .i64 (n : Int)]] w fun e w' => ∃ v', e = .returned (.tuple #[v', .int .i64 (ansI (pairN ns 5 m n 1 0).2)]) ∧ RAf B v w w' v' (pairN ns 5 m n 1 0).1 := by
  have pre := rpre B v ns ⟨5,(m:Int),(n:Int)⟩ w hB ho
  have h2 := hG.two
  have hmost := hG.most
  have hl0 : 0 < ns.length := by omega
  have hl1 : 1 < ns.length := by omega
  have hl1' : (1 : Int) < ns.length := by omega
  obtain ⟨g, c, rfl, hgB, hg, hc⟩ := owned_form ho (by omega)
  obtain ⟨A, c', e, _, hr⟩ := ownsRow_form ho
  injection e with e1 e2 e3
  subst e1
  subst e3
  clear e2
  simp only at pre
  have hN : ∀ (a b : Int) (W : World), 0 ≤ a → a < ns.length → 0 ≤ b → W.ownsRow B 108 3 (.slice (some ⟨g, 0, none⟩) ns.length c) ns.length (ndCells ns) → Calls Try.prog 90 #[.slice (some ⟨g, 0, none⟩) ns.length c, .int .i64 a, .int .i64 b] W fun e w' => e = .returned (.bool (opp1 ns a b)) ∧ w' = W := by
    intro a b W h0 h1 h3 h
    obtain ⟨a, rfl⟩ : ∃ a' : Nat, a = a' := ⟨a.toNat, by omega⟩
    obtain ⟨b, rfl⟩ : ∃ b' : Nat, b = b' := ⟨b.toNat, by omega⟩
    exact rnot_any _ ns a b B W (by omega) h
  have HN := Lib.hid hN
  have HO : oppN ns m n = (opp1 ns m n || opp1 ns n m) := rfl
  have PRE := Lib.hid pre
  clear pre
  clear hN ho hG hr
  simp only [pairN]
  by_cases g1 : m = 0
  · have g1' : (m : Int) = 0 := by omega
    rw [g1'] at PRE ⊢
    rw [if_pos (.inl g1)]
    go_enter Try.func73, Try.ntmps73
    go_wp2_with (first | (go_at_call 89; refine (HP.out _ PRE.out.own1 PRE.out.le).mono ?_; rintro e w' ⟨v', rfl, haft⟩) | (go_at_call 90; refine (HN.out _ _ _ (by omega) (by omega) (by omega) PRE.out.own1).mono ?_; rintro e w' ⟨rfl, rfl⟩))
    all_goals (first | go_quiet (fail) | skip)
    all_goals go_wp2_with fail
    all_goals go_ret2
    all_goals (first | exact ⟨_, rfl, PRE.out.same0⟩ | exact ⟨_, rfl, PRE.out.same _⟩)
  have g1' : ¬ (m : Int) = 0 := by omega
  have g1'' : ((m : Int) == 0) = false := by simpa using g1'
  by_cases g2 : n = 0
  · have g2' : (n : Int) = 0 := by omega
    rw [g2'] at PRE ⊢
    rw [if_pos (.inr (.inl g2))]
    go_enter Try.func73, Try.ntmps73
    go_wp2_with (first | (go_at_call 89; refine (HP.out _ PRE.out.own1 PRE.out.le).mono ?_; rintro e w' ⟨v', rfl, haft⟩) | (go_at_call 90; refine (HN.out _ _ _ (by omega) (by omega) (by omega) PRE.out.own1).mono ?_; rintro e w' ⟨rfl, rfl⟩))
    all_goals (first | go_quiet (fail) | skip)
    all_goals go_wp2_with fail
    all_goals go_ret2
    all_goals (first | exact ⟨_, rfl, PRE.out.same0⟩ | exact ⟨_, rfl, PRE.out.same _⟩)
  have g2' : ¬ (n : Int) = 0 := by omega
  have g2'' : ((n : Int) == 0) = false := by simpa using g2'
  cases hx : opp1 ns m n with
  | true =>
    rw [if_pos (.inr (.inr (by rw [HO, hx]; rfl)))]
    go_enter Try.func73, Try.ntmps73
    go_wp2_with (first | (go_at_call 89; refine (HP.out _ PRE.out.own1 PRE.out.le).mono ?_; rintro e w' ⟨v', rfl, haft⟩) | (go_at_call 90; refine (HN.out _ _ _ (by omega) (by omega) (by omega) PRE.out.own1).mono ?_; rintro e w' ⟨rfl, rfl⟩))
    all_goals (first | go_quiet (fail) | skip)
    all_goals go_wp2_with fail
    all_goals go_ret2
    all_goals (first | exact ⟨_, rfl, PRE.out.same0⟩ | exact ⟨_, rfl, PRE.out.same _⟩)
  | false =>
  cases hy : opp1 ns n m with
  | true =>
    rw [if_pos (.inr (.inr (by rw [HO, hx, hy]; rfl)))]
    go_enter Try.func73, Try.ntmps73
    go_wp2_with (first | (go_at_call 89; refine (HP.out _ PRE.out.own1 PRE.out.le).mono ?_; rintro e w' ⟨v', rfl, haft⟩) | (go_at_call 90; refine (HN.out _ _ _ (by omega) (by omega) (by omega) PRE.out.own1).mono ?_; rintro e w' ⟨rfl, rfl⟩))
    all_goals (first | go_quiet (fail) | skip)
    all_goals go_wp2_with fail
    all_goals go_ret2
    all_goals (first | exact ⟨_, rfl, PRE.out.same0⟩ | exact ⟨_, rfl, PRE.out.same _⟩)
  | false =>
  rw [if_neg (by rw [HO, hx, hy]; simp [g1, g2])]
  clear HO
  by_cases g3 : m = 1
  · have g3' : (m : Int) = 1 := by omega
    rw [g3'] at PRE hx hy ⊢
    rw [if_pos (.inl g3)]
    go_enter Try.func73, Try.ntmps73
    go_wp2_with (first | (go_at_call 89; refine (HP.out _ PRE.out.own1 PRE.out.le).mono ?_; rintro e w' ⟨v', rfl, haft⟩) | (go_at_call 90; refine (HN.out _ _ _ (by omega) (by omega) (by omega) PRE.out.own1).mono ?_; rintro e w' ⟨rfl, rfl⟩))
    all_goals (first | go_quiet (fail) | skip)
    all_goals go_wp2_with fail
    all_goals go_ret2
    all_goals (first | exact ⟨_, rfl, PRE.out.same0⟩ | exact ⟨_, rfl, PRE.out.same _⟩)
  have g3' : ¬ (m : Int) = 1 := by omega
  have g3'' : ((m : Int) == 1) = false := by simpa using g3'
  by_cases g4 : m = n
  · subst g4
    rw [if_pos (.inr rfl)]
    go_enter Try.func73, Try.ntmps73
    go_wp2_with (first | (go_at_call 89; refine (HP.out _ PRE.out.own1 PRE.out.le).mono ?_; rintro e w' ⟨v', rfl, haft⟩) | (go_at_call 90; refine (HN.out _ _ _ (by omega) (by omega) (by omega) PRE.out.own1).mono ?_; rintro e w' ⟨rfl, rfl⟩))
    all_goals (first | go_quiet (fail) | skip)
    all_goals go_wp2_with fail
    all_goals go_ret2
    all_goals (first | exact ⟨_, rfl, PRE.out.same0⟩ | exact ⟨_, rfl, PRE.out.same _⟩)
  have g4' : ¬ (m : Int) = n := by omega
  have g4'' : ((m : Int) == n) = false := by simpa using g4'
  rw [if_neg (by simp [g3, g4])]
  by_cases g5 : n = 1
  · have g5' : (n : Int) = 1 := by omega
    rw [g5'] at PRE hx hy ⊢
    rw [if_pos g5]
    go_enter Try.func73, Try.ntmps73
    go_wp2_with (first | (go_at_call 89; refine (HP.out _ PRE.out.own1 PRE.out.le).mono ?_; rintro e w' ⟨v', rfl, haft⟩) | (go_at_call 90; refine (HN.out _ _ _ (by omega) (by omega) (by omega) PRE.out.own1).mono ?_; rintro e w' ⟨rfl, rfl⟩))
    all_goals (first | go_quiet (fail) | skip)
    all_goals go_wp2_with fail
    all_goals go_ret2
    all_goals (first | exact ⟨_, rfl, PRE.out.same0⟩ | exact ⟨_, rfl, PRE.out.same _⟩)
  have g5' : ¬ (n : Int) = 1 := by omega
  have g5'' : ((n : Int) == 1) = false := by simpa using g5'
  rw [if_neg g5]
  clear g1 g2 g3 g4 g5
  by_cases hmn : m < n
  · have e1 : min m n = m := by omega
    have e2 : max m n = n := by omega
    have hmn' : (m : Int) < n := by omega
    rw [e1, e2]
    clear e1 e2
    have hp := fun (W : World) h (hB : B ≤ W.heap.size) => rfind_any B (.slice (some ⟨g, 0, none⟩) ns.length c) ns ⟨5,m,n⟩ W hB h2 hmost h
    have HP := Lib.hid hp
    clear hp
    go_enter Try.func73, Try.ntmps73
    go_wp2_with (first | (go_at_call 89; refine (HP.out _ PRE.out.own1 PRE.out.le).mono ?_; rintro e w' ⟨v', rfl, haft⟩) | (go_at_call 90; refine (HN.out _ _ _ (by omega) (by omega) (by omega) PRE.out.own1).mono ?_; rintro e w' ⟨rfl, rfl⟩))
    all_goals go_ret2
    all_goals exact ⟨_, rfl, haft.drop PRE.out.bel⟩
  · have e1 : min m n = n := by omega
    have e2 : max m n = m := by omega
    have hmn' : (n : Int) < m := by omega
    rw [e1, e2]
    clear e1 e2
    have hp := fun (W : World) h (hB : B ≤ W.heap.size) => rfind_any B (.slice (some ⟨g, 0, none⟩) ns.length c) ns ⟨5,n,m⟩ W hB h2 hmost h
    have HP := Lib.hid hp
    clear hp
    go_enter Try.func73, Try.ntmps73
    go_wp2_with (first | (go_at_call 89; refine (HP.out _ PRE.out.own1 PRE.out.le).mono ?_; rintro e w' ⟨v', rfl, haft⟩) | (go_at_call 90; refine (HN.out _ _ _ (by omega) (by omega) (by omega) PRE.out.own1).mono ?_; rintro e w' ⟨rfl, rfl⟩))
    all_goals go_ret2
    all_goals exact ⟨_, rfl, haft.drop PRE.out.bel⟩
set_option maxRecDepth 100000 in
set_option maxHeartbeats 8000000 in
theorem rpair6 (B : Nat) (v : Value) (ns : List Nd) (m n : Nat) (w : World) (hB : B ≤ w.heap.size) (hG : Good ns) (hm : m < ns.length) (hn : n < ns.length) (ho : w.ownsRow B 108 3 v ns.length (ndCells ns)) :
    Calls Try.prog 73 #[v, .agg #[.int .i64 6, .int .i64 (m : Int), .int .i64 (n : Int)]] w fun e w' => ∃ v', e = .returned (.tuple #[v', .int .i64 (ansI (pairN ns 6 m n 0 1).2)]) ∧ RAf B v w w' v' (pairN ns 6 m n 0 1).1 := by
  have pre := rpre B v ns ⟨6,(m:Int),(n:Int)⟩ w hB ho
  have h2 := hG.two
  have hmost := hG.most
  have hl0 : 0 < ns.length := by omega
  have hl1 : 1 < ns.length := by omega
  have hl1' : (1 : Int) < ns.length := by omega
  obtain ⟨g, c, rfl, hgB, hg, hc⟩ := owned_form ho (by omega)
  obtain ⟨A, c', e, _, hr⟩ := ownsRow_form ho
  injection e with e1 e2 e3
  subst e1
  subst e3
  clear e2
  simp only at pre
  have hN : ∀ (a b : Int) (W : World), 0 ≤ a → a < ns.length → 0 ≤ b → W.ownsRow B 108 3 (.slice (some ⟨g, 0, none⟩) ns.length c) ns.length (ndCells ns) → Calls Try.prog 90 #[.slice (some ⟨g, 0, none⟩) ns.length c, .int .i64 a, .int .i64 b] W fun e w' => e = .returned (.bool (opp1 ns a b)) ∧ w' = W := by
    intro a b W h0 h1 h3 h
    obtain ⟨a, rfl⟩ : ∃ a' : Nat, a = a' := ⟨a.toNat, by omega⟩
    obtain ⟨b, rfl⟩ : ∃ b' : Nat, b = b' := ⟨b.toNat, by omega⟩
    exact rnot_any _ ns a b B W (by omega) h
  have HN := Lib.hid hN
  have HO : oppN ns m n = (opp1 ns m n || opp1 ns n m) := rfl
  have PRE := Lib.hid pre
  clear pre
  clear hN ho hG hr
  simp only [pairN]
  by_cases g1 : m = 1
  · have g1' : (m : Int) = 1 := by omega
    rw [g1'] at PRE ⊢
    rw [if_pos (.inl g1)]
    go_enter Try.func73, Try.ntmps73
    go_wp2_with (first | (go_at_call 89; refine (HP.out _ PRE.out.own1 PRE.out.le).mono ?_; rintro e w' ⟨v', rfl, haft⟩) | (go_at_call 90; refine (HN.out _ _ _ (by omega) (by omega) (by omega) PRE.out.own1).mono ?_; rintro e w' ⟨rfl, rfl⟩))
    all_goals (first | go_quiet (fail) | skip)
    all_goals go_wp2_with fail
    all_goals go_ret2
    all_goals (first | exact ⟨_, rfl, PRE.out.same0⟩ | exact ⟨_, rfl, PRE.out.same _⟩)
  have g1' : ¬ (m : Int) = 1 := by omega
  have g1'' : ((m : Int) == 1) = false := by simpa using g1'
  by_cases g2 : n = 1
  · have g2' : (n : Int) = 1 := by omega
    rw [g2'] at PRE ⊢
    rw [if_pos (.inr (.inl g2))]
    go_enter Try.func73, Try.ntmps73
    go_wp2_with (first | (go_at_call 89; refine (HP.out _ PRE.out.own1 PRE.out.le).mono ?_; rintro e w' ⟨v', rfl, haft⟩) | (go_at_call 90; refine (HN.out _ _ _ (by omega) (by omega) (by omega) PRE.out.own1).mono ?_; rintro e w' ⟨rfl, rfl⟩))
    all_goals (first | go_quiet (fail) | skip)
    all_goals go_wp2_with fail
    all_goals go_ret2
    all_goals (first | exact ⟨_, rfl, PRE.out.same0⟩ | exact ⟨_, rfl, PRE.out.same _⟩)
  have g2' : ¬ (n : Int) = 1 := by omega
  have g2'' : ((n : Int) == 1) = false := by simpa using g2'
  cases hx : opp1 ns m n with
  | true =>
    rw [if_pos (.inr (.inr (by rw [HO, hx]; rfl)))]
    go_enter Try.func73, Try.ntmps73
    go_wp2_with (first | (go_at_call 89; refine (HP.out _ PRE.out.own1 PRE.out.le).mono ?_; rintro e w' ⟨v', rfl, haft⟩) | (go_at_call 90; refine (HN.out _ _ _ (by omega) (by omega) (by omega) PRE.out.own1).mono ?_; rintro e w' ⟨rfl, rfl⟩))
    all_goals (first | go_quiet (fail) | skip)
    all_goals go_wp2_with fail
    all_goals go_ret2
    all_goals (first | exact ⟨_, rfl, PRE.out.same0⟩ | exact ⟨_, rfl, PRE.out.same _⟩)
  | false =>
  cases hy : opp1 ns n m with
  | true =>
    rw [if_pos (.inr (.inr (by rw [HO, hx, hy]; rfl)))]
    go_enter Try.func73, Try.ntmps73
    go_wp2_with (first | (go_at_call 89; refine (HP.out _ PRE.out.own1 PRE.out.le).mono ?_; rintro e w' ⟨v', rfl, haft⟩) | (go_at_call 90; refine (HN.out _ _ _ (by omega) (by omega) (by omega) PRE.out.own1).mono ?_; rintro e w' ⟨rfl, rfl⟩))
    all_goals (first | go_quiet (fail) | skip)
    all_goals go_wp2_with fail
    all_goals go_ret2
    all_goals (first | exact ⟨_, rfl, PRE.out.same0⟩ | exact ⟨_, rfl, PRE.out.same _⟩)
  | false =>
  rw [if_neg (by rw [HO, hx, hy]; simp [g1, g2])]
  clear HO
  by_cases g3 : m = 0
  · have g3' : (m : Int) = 0 := by omega
    rw [g3'] at PRE hx hy ⊢
    rw [if_pos (.inl g3)]
    go_enter Try.func73, Try.ntmps73
    go_wp2_with (first | (go_at_call 89; refine (HP.out _ PRE.out.own1 PRE.out.le).mono ?_; rintro e w' ⟨v', rfl, haft⟩) | (go_at_call 90; refine (HN.out _ _ _ (by omega) (by omega) (by omega) PRE.out.own1).mono ?_; rintro e w' ⟨rfl, rfl⟩))
    all_goals (first | go_quiet (fail) | skip)
    all_goals go_wp2_with fail
    all_goals go_ret2
    all_goals (first | exact ⟨_, rfl, PRE.out.same0⟩ | exact ⟨_, rfl, PRE.out.same _⟩)
  have g3' : ¬ (m : Int) = 0 := by omega
  have g3'' : ((m : Int) == 0) = false := by simpa using g3'
  by_cases g4 : m = n
  · subst g4
    rw [if_pos (.inr rfl)]
    go_enter Try.func73, Try.ntmps73
    go_wp2_with (first | (go_at_call 89; refine (HP.out _ PRE.out.own1 PRE.out.le).mono ?_; rintro e w' ⟨v', rfl, haft⟩) | (go_at_call 90; refine (HN.out _ _ _ (by omega) (by omega) (by omega) PRE.out.own1).mono ?_; rintro e w' ⟨rfl, rfl⟩))
    all_goals (first | go_quiet (fail) | skip)
    all_goals go_wp2_with fail
    all_goals go_ret2
    all_goals (first | exact ⟨_, rfl, PRE.out.same0⟩ | exact ⟨_, rfl, PRE.out.same _⟩)
  have g4' : ¬ (m : Int) = n := by omega
  have g4'' : ((m : Int) == n) = false := by simpa using g4'
  rw [if_neg (by simp [g3, g4])]
  by_cases g5 : n = 0
  · have g5' : (n : Int) = 0 := by omega
    rw [g5'] at PRE hx hy ⊢
    rw [if_pos g5]
    go_enter Try.func73, Try.ntmps73
    go_wp2_with (first | (go_at_call 89; refine (HP.out _ PRE.out.own1 PRE.out.le).mono ?_; rintro e w' ⟨v', rfl, haft⟩) | (go_at_call 90; refine (HN.out _ _ _ (by omega) (by omega) (by omega) PRE.out.own1).mono ?_; rintro e w' ⟨rfl, rfl⟩))
    all_goals (first | go_quiet (fail) | skip)
    all_goals go_wp2_with fail
    all_goals go_ret2
    all_goals (first | exact ⟨_, rfl, PRE.out.same0⟩ | exact ⟨_, rfl, PRE.out.same _⟩)
  have g5' : ¬ (n : Int) = 0 := by omega
  have g5'' : ((n : Int) == 0) = false := by simpa using g5'
  rw [if_neg g5]
  clear g1 g2 g3 g4 g5
  by_cases hmn : m < n
  · have e1 : min m n = m := by omega
    have e2 : max m n = n := by omega
    have hmn' : (m : Int) < n := by omega
    rw [e1, e2]
    clear e1 e2
    have hp := fun (W : World) h (hB : B ≤ W.heap.size) => rfind_any B (.slice (some ⟨g, 0, none⟩) ns.length c) ns ⟨6,m,n⟩ W hB h2 hmost h
    have HP := Lib.hid hp
    clear hp
    go_enter Try.func73, Try.ntmps73
    go_wp2_with (first | (go_at_call 89; refine (HP.out _ PRE.out.own1 PRE.out.le).mono ?_; rintro e w' ⟨v', rfl, haft⟩) | (go_at_call 90; refine (HN.out _ _ _ (by omega) (by omega) (by omega) PRE.out.own1).mono ?_; rintro e w' ⟨rfl, rfl⟩))
    all_goals go_ret2
    all_goals exact ⟨_, rfl, haft.drop PRE.out.bel⟩
  · have e1 : min m n = n := by omega
    have e2 : max m n = m := by omega
    have hmn' : (n : Int) < m := by omega
    rw [e1, e2]
    clear e1 e2
    have hp := fun (W : World) h (hB : B ≤ W.heap.size) => rfind_any B (.slice (some ⟨g, 0, none⟩) ns.length c) ns ⟨6,n,m⟩ W hB h2 hmost h
    have HP := Lib.hid hp
    clear hp
    go_enter Try.func73, Try.ntmps73
    go_wp2_with (first | (go_at_call 89; refine (HP.out _ PRE.out.own1 PRE.out.le).mono ?_; rintro e w' ⟨v', rfl, haft⟩) | (go_at_call 90; refine (HN.out _ _ _ (by omega) (by omega) (by omega) PRE.out.own1).mono ?_; rintro e w' ⟨rfl, rfl⟩))
    all_goals go_ret2
    all_goals exact ⟨_, rfl, haft.drop PRE.out.bel⟩
end Go.Proofs.Ytbcabcdgblmnkaa

namespace Go.Proofs.Ytbcabcdgblmnkaa
open Go.RowKit
set_option linter.unusedVariables false
set_option linter.unusedSimpArgs false

theorem notN_0 {ns : List Nd} (h : Good ns) : notN ns 0 = (ns, some 1) := by
  unfold notN
  rw [h.n0]
  rfl
theorem notN_1 {ns : List Nd} (h : Good ns) : notN ns 1 = (ns, some 0) := by
  unfold notN
  rw [h.n1]
  rfl
theorem Good.kind {ns : List Nd} (h : Good ns) (m : Nat) (h2 : 2 ≤ m) (hm : m < ns.length) : (nd ns m).k ≠ 1 ∧ (nd ns m).k ≠ 2 := by
  rcases h.parts m h2 hm with ⟨h1, _⟩ | ⟨h1, _⟩ | ⟨h1, _⟩
  · exact ⟨by omega, by omega⟩
  · exact ⟨by omega, by omega⟩
  · exact ⟨by omega, by omega⟩
theorem notN_4 {ns : List Nd} (h : Good ns) (m : Nat) (h2 : 2 ≤ m) (hm : m < ns.length) : notN ns m = if (nd ns m).k = 4 then (ns, some (nd ns m).a.toNat) else putN ns ⟨4, m, 0⟩ := by
  obtain ⟨h3, h4⟩ := h.kind m h2 hm
  unfold notN
  rw [if_neg h3, if_neg h4]

set_option maxRecDepth 100000 in
set_option maxHeartbeats 8000000 in
theorem rnot4 (B : Nat) (v : Value) (ns : List Nd) (m : Nat) (b : Int) (w : World) (hB : B ≤ w.heap.size) (hG : Good ns) (hm : m < ns.length) (ho : w.ownsRow B 108 3 v ns.length (ndCells ns)) :
    Calls Try.prog 73 #[v, .agg #[.int .i64 4, .int .i64 (m : Int), .int .i64 b]] w fun e w' => ∃ v', e = .returned (.tuple #[v', .int .i64 (ansI (notN ns m).2)]) ∧ RAf B v w w' v' (notN ns m).1 := by
  have pre := rpre B v ns ⟨4,(m:Int),b⟩ w hB ho
  have h2 := hG.two
  have hmost := hG.most
  have hl0 : 0 < ns.length := by omega
  have hl1 : 1 < ns.length := by omega
  have hl1' : (1 : Int) < ns.length := by omega
  obtain ⟨g, c, rfl, hgB, hg, hc⟩ := owned_form ho (by omega)
  obtain ⟨A, c', e, _, hr⟩ := ownsRow_form ho
  injection e with e1 e2 e3
  subst e1
  subst e3
  clear e2
  simp only at pre
  have hrd := hr.below ((Below.refl _ _).alloc (Nat.le_refl _) (.cells #[.int .i64 4, .int .i64 (m : Int), .int .i64 b] 108))
  have PRE := Lib.hid pre
  clear pre ho hr
  by_cases h0 : m = 0
  · subst h0
    rw [notN_0 hG]
    clear hG hrd
    go_enter Try.func73, Try.ntmps73
    go_wp2_with ((go_at_call 89; refine (HP.out _ PRE.out.own1 PRE.out.le).mono ?_; rintro e w' ⟨v', rfl, haft⟩))
    all_goals (first | go_quiet (fail) | skip)
    all_goals go_wp2_with fail
    all_goals go_ret2
    all_goals (first | exact ⟨_, rfl, PRE.out.same0⟩ | exact ⟨_, rfl, PRE.out.same _⟩)
  by_cases h1 : m = 1
  · subst h1
    rw [notN_1 hG]
    clear hG hrd
    go_enter Try.func73, Try.ntmps73
    go_wp2_with ((go_at_call 89; refine (HP.out _ PRE.out.own1 PRE.out.le).mono ?_; rintro e w' ⟨v', rfl, haft⟩))
    all_goals (first | go_quiet (fail) | skip)
    all_goals go_wp2_with fail
    all_goals go_ret2
    all_goals (first | exact ⟨_, rfl, PRE.out.same0⟩ | exact ⟨_, rfl, PRE.out.same _⟩)
  have h2' : 2 ≤ m := by omega
  rw [notN_4 hG m h2' hm]
  obtain ⟨x0, x1, x2⟩ := hrd.nd3' m hm rfl
  simp only [Nat.zero_add] at x0 x1 x2
  have hneg := hG.neg m hm
  clear hG hrd
  have h2'' : ¬ (m : Int) < 2 := by omega
  clear h0 h1
  generalize nd ns m = X at *
  obtain ⟨xk, xa, xb⟩ := X
  simp only at x0 x1 x2 hneg ⊢
  by_cases k4 : xk = 4
  · subst k4
    have := hneg rfl
    obtain ⟨p, rfl⟩ : ∃ p : Nat, xa = p := ⟨xa.toNat, by omega⟩
    rw [if_pos rfl, Int.toNat_natCast]
    clear hneg
    go_enter Try.func73, Try.ntmps73
    go_wp2_with ((go_at_call 89; refine (HP.out _ PRE.out.own1 PRE.out.le).mono ?_; rintro e w' ⟨v', rfl, haft⟩))
    all_goals (first | go_quiet (fail) | skip)
    all_goals go_wp2_with fail
    all_goals go_ret2
    all_goals (first | exact ⟨_, rfl, PRE.out.same0⟩ | exact ⟨_, rfl, PRE.out.same _⟩)
  · rw [if_neg k4]
    clear hneg
    have hp := fun (W : World) h (hB : B ≤ W.heap.size) => rfind_any B (.slice (some ⟨g, 0, none⟩) ns.length c) ns ⟨4,(m:Int),0⟩ W hB h2 hmost h
    have HP := Lib.hid hp
    clear hp
    go_enter Try.func73, Try.ntmps73
    go_wp2_with ((go_at_call 89; refine (HP.out _ PRE.out.own1 PRE.out.le).mono ?_; rintro e w' ⟨v', rfl, haft⟩))
    all_goals go_ret2
    all_goals exact ⟨_, rfl, haft.drop PRE.out.bel⟩

set_option maxRecDepth 100000 in
set_option maxHeartbeats 8000000 in
theorem rdo_any (B : Nat) (v : Value) (ns : List Nd) (o : Nd) (w : World) (hB : B ≤ w.heap.size) (hG : Good ns) (ho : w.ownsRow B 108 3 v ns.length (ndCells ns)) :
    Calls Try.prog 73 #[v, .agg #[.int .i64 o.k, .int .i64 o.a, .int .i64 o.b]] w fun e w' => ∃ v', e = .returned (.tuple #[v', .int .i64 (ansI (doN ns o).2)]) ∧ RAf B v w w' v' (doN ns o).1 := by
  obtain ⟨k, a, b⟩ := o
  have R4 := fun m hm => rnot4 B v ns m b w hB hG hm ho
  have R5 := fun m n hm hn => rpair5 B v ns m n w hB hG hm hn ho
  have R6 := fun m n hm hn => rpair6 B v ns m n w hB hG hm hn ho
  have pre := rpre B v ns ⟨k,a,b⟩ w hB ho
  have h2 := hG.two
  have hmost := hG.most
  have hl0 : 0 < ns.length := by omega
  have hl1 : 1 < ns.length := by omega
  have hl1' : (1 : Int) < ns.length := by omega
  obtain ⟨g, c, rfl, hgB, hg, hc⟩ := owned_form ho (by omega)
  obtain ⟨A, c', e, _, hr⟩ := ownsRow_form ho
  injection e with e1 e2 e3
  subst e1
  subst e3
  clear e2
  simp only at pre
  have PRE := Lib.hid pre
  clear ho hG pre hr
  unfold doN
  simp only at PRE ⊢
  by_cases k1 : k = 1
  · subst k1
    clear R4 R5 R6
    simp only [if_true]
    go_enter Try.func73, Try.ntmps73
    go_wp2_with ((go_at_call 89; refine (HP.out _ PRE.out.own1 PRE.out.le).mono ?_; rintro e w' ⟨v', rfl, haft⟩))
    all_goals go_ret2
    all_goals exact ⟨_, rfl, PRE.out.same0⟩
  by_cases k2 : k = 2
  · subst k2
    clear R4 R5 R6
    simp only [k1, if_false, if_true]
    go_enter Try.func73, Try.ntmps73
    go_wp2_with ((go_at_call 89; refine (HP.out _ PRE.out.own1 PRE.out.le).mono ?_; rintro e w' ⟨v', rfl, haft⟩))
    all_goals go_ret2
    all_goals exact ⟨_, rfl, PRE.out.same0⟩
  by_cases k3 : k = 3
  · subst k3
    clear R4 R5 R6
    simp only [k1, k2, if_false, if_true]
    by_cases ha : 0 ≤ a
    · simp only [ha, if_true]
      have hp := fun (W : World) h (hB : B ≤ W.heap.size) => rfind_any B (.slice (some ⟨g, 0, none⟩) ns.length c) ns ⟨3,a,0⟩ W hB h2 hmost h
      have HP := Lib.hid hp
      clear hp
      go_enter Try.func73, Try.ntmps73
      go_wp2_with ((go_at_call 89; refine (HP.out _ PRE.out.own1 PRE.out.le).mono ?_; rintro e w' ⟨v', rfl, haft⟩))
      all_goals go_ret2
      all_goals exact ⟨_, rfl, haft.drop PRE.out.bel⟩
    · simp only [ha, if_false]
      go_enter Try.func73, Try.ntmps73
      go_wp2_with ((go_at_call 89; refine (HP.out _ PRE.out.own1 PRE.out.le).mono ?_; rintro e w' ⟨v', rfl, haft⟩))
      all_goals go_ret2
      all_goals exact ⟨_, rfl, PRE.out.same0⟩
  by_cases k4 : k = 4
  · subst k4
    clear R5 R6
    simp only [k1, k2, k3, if_false, if_true]
    cases ha : inB ns a with
    | false =>
      clear R4
      simp only [Bool.false_eq_true, if_false]
      have ho : a < 0 ∨ (ns.length : Int) ≤ a := by simp [inB] at ha; omega
      clear ha
      rcases ho with ho | ho
      · have ho' : ¬ 0 ≤ a := by omega
        go_enter Try.func73, Try.ntmps73
        go_wp2_with ((go_at_call 89; refine (HP.out _ PRE.out.own1 PRE.out.le).mono ?_; rintro e w' ⟨v', rfl, haft⟩))
        all_goals go_ret2
        all_goals exact ⟨_, rfl, PRE.out.same0⟩
      · have ho' : ¬ a < ns.length := by omega
        have ho'' : 0 ≤ a := by omega
        go_enter Try.func73, Try.ntmps73
        go_wp2_with ((go_at_call 89; refine (HP.out _ PRE.out.own1 PRE.out.le).mono ?_; rintro e w' ⟨v', rfl, haft⟩))
        all_goals go_ret2
        all_goals exact ⟨_, rfl, PRE.out.same0⟩
    | true =>
      simp only [if_true]
      obtain ⟨m, rfl⟩ : ∃ m : Nat, a = m := ⟨a.toNat, by simp [inB] at ha; omega⟩
      have hm : m < ns.length := by simp [inB] at ha; omega
      clear ha
      rw [Int.toNat_natCast]
      exact R4 m hm
  by_cases k5 : k = 5
  · subst k5
    clear R4 R6
    simp only [k1, k2, k3, k4, if_false, if_true]
    cases ha : inB ns a with
    | false =>
      clear R5
      simp only [Bool.false_and, Bool.false_eq_true, if_false]
      have ho : a < 0 ∨ (ns.length : Int) ≤ a := by simp [inB] at ha; omega
      clear ha
      rcases ho with ho | ho
      · have ho' : ¬ 0 ≤ a := by omega
        go_enter Try.func73, Try.ntmps73
        go_wp2_with ((go_at_call 89; refine (HP.out _ PRE.out.own1 PRE.out.le).mono ?_; rintro e w' ⟨v', rfl, haft⟩))
        all_goals go_ret2
        all_goals exact ⟨_, rfl, PRE.out.same0⟩
      · have ho' : ¬ a < ns.length := by omega
        have ho'' : 0 ≤ a := by omega
        go_enter Try.func73, Try.ntmps73
        go_wp2_with ((go_at_call 89; refine (HP.out _ PRE.out.own1 PRE.out.le).mono ?_; rintro e w' ⟨v', rfl, haft⟩))
        all_goals go_ret2
        all_goals exact ⟨_, rfl, PRE.out.same0⟩
    | true =>
      obtain ⟨m, rfl⟩ : ∃ m : Nat, a = m := ⟨a.toNat, by simp [inB] at ha; omega⟩
      have hm : m < ns.length := by simp [inB] at ha; omega
      clear ha
      cases hb : inB ns b with
      | false =>
        clear R5
        simp only [Bool.and_false, Bool.false_eq_true, if_false]
        have ho : b < 0 ∨ (ns.length : Int) ≤ b := by simp [inB] at hb; omega
        clear hb
        rcases ho with ho | ho
        · have ho' : ¬ 0 ≤ b := by omega
          go_enter Try.func73, Try.ntmps73
          go_wp2_with ((go_at_call 89; refine (HP.out _ PRE.out.own1 PRE.out.le).mono ?_; rintro e w' ⟨v', rfl, haft⟩))
          all_goals go_ret2
          all_goals exact ⟨_, rfl, PRE.out.same0⟩
        · have ho' : ¬ b < ns.length := by omega
          have ho'' : 0 ≤ b := by omega
          go_enter Try.func73, Try.ntmps73
          go_wp2_with ((go_at_call 89; refine (HP.out _ PRE.out.own1 PRE.out.le).mono ?_; rintro e w' ⟨v', rfl, haft⟩))
          all_goals go_ret2
          all_goals exact ⟨_, rfl, PRE.out.same0⟩
      | true =>
        obtain ⟨n, rfl⟩ : ∃ m : Nat, b = m := ⟨b.toNat, by simp [inB] at hb; omega⟩
        have hn : n < ns.length := by simp [inB] at hb; omega
        clear hb
        simp only [Bool.and_self, if_true, Int.toNat_natCast]
        exact R5 m n hm hn
  by_cases k6 : k = 6
  · subst k6
    clear R4 R5
    simp only [k1, k2, k3, k4, k5, if_false, if_true]
    cases ha : inB ns a with
    | false =>
      clear R6
      simp only [Bool.false_and, Bool.false_eq_true, if_false]
      have ho : a < 0 ∨ (ns.length : Int) ≤ a := by simp [inB] at ha; omega
      clear ha
      rcases ho with ho | ho
      · have ho' : ¬ 0 ≤ a := by omega
        go_enter Try.func73, Try.ntmps73
        go_wp2_with ((go_at_call 89; refine (HP.out _ PRE.out.own1 PRE.out.le).mono ?_; rintro e w' ⟨v', rfl, haft⟩))
        all_goals go_ret2
        all_goals exact ⟨_, rfl, PRE.out.same0⟩
      · have ho' : ¬ a < ns.length := by omega
        have ho'' : 0 ≤ a := by omega
        go_enter Try.func73, Try.ntmps73
        go_wp2_with ((go_at_call 89; refine (HP.out _ PRE.out.own1 PRE.out.le).mono ?_; rintro e w' ⟨v', rfl, haft⟩))
        all_goals go_ret2
        all_goals exact ⟨_, rfl, PRE.out.same0⟩
    | true =>
      obtain ⟨m, rfl⟩ : ∃ m : Nat, a = m := ⟨a.toNat, by simp [inB] at ha; omega⟩
      have hm : m < ns.length := by simp [inB] at ha; omega
      clear ha
      cases hb : inB ns b with
      | false =>
        clear R6
        simp only [Bool.and_false, Bool.false_eq_true, if_false]
        have ho : b < 0 ∨ (ns.length : Int) ≤ b := by simp [inB] at hb; omega
        clear hb
        rcases ho with ho | ho
        · have ho' : ¬ 0 ≤ b := by omega
          go_enter Try.func73, Try.ntmps73
          go_wp2_with ((go_at_call 89; refine (HP.out _ PRE.out.own1 PRE.out.le).mono ?_; rintro e w' ⟨v', rfl, haft⟩))
          all_goals go_ret2
          all_goals exact ⟨_, rfl, PRE.out.same0⟩
        · have ho' : ¬ b < ns.length := by omega
          have ho'' : 0 ≤ b := by omega
          go_enter Try.func73, Try.ntmps73
          go_wp2_with ((go_at_call 89; refine (HP.out _ PRE.out.own1 PRE.out.le).mono ?_; rintro e w' ⟨v', rfl, haft⟩))
          all_goals go_ret2
          all_goals exact ⟨_, rfl, PRE.out.same0⟩
      | true =>
        obtain ⟨n, rfl⟩ : ∃ m : Nat, b = m := ⟨b.toNat, by simp [inB] at hb; omega⟩
        have hn : n < ns.length := by simp [inB] at hb; omega
        clear hb
        simp only [Bool.and_self, if_true, Int.toNat_natCast]
        exact R6 m n hm hn
  · clear R4 R5 R6
    simp only [k1, k2, k3, k4, k5, k6, if_false]
    go_enter Try.func73, Try.ntmps73
    go_wp2_with ((go_at_call 89; refine (HP.out _ PRE.out.own1 PRE.out.le).mono ?_; rintro e w' ⟨v', rfl, haft⟩))
    all_goals go_ret2
    all_goals exact ⟨_, rfl, PRE.out.same0⟩
end Go.Proofs.Ytbcabcdgblmnkaa
