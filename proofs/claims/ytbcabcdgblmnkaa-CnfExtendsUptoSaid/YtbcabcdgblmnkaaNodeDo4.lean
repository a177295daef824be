/- Contracts of package intern: Do. -/
import Derived.Test.YtbcabcdgblmnkaaNodeDo3
namespace Go.Proofs.Ytbcabcdgblmnkaa
open Go.RowKit
set_option linter.unusedVariables false
set_option linter.unusedSimpArgs false

def inB (ns : List Nd) (i : Int) : Bool := decide (0 ≤ i) && decide (i < ns.length)
def doN (ns : List Nd) (o : Nd) : List Nd × Option Nat :=
  if o.k = 1 then (ns, some 0) else if o.k = 2 then (ns, some 1)
  else if o.k = 3 then (if 0 ≤ o.a then putN ns ⟨3, o.a, 0⟩ else (ns, none))
  else if o.k = 4 then (if inB ns o.a then notN ns o.a.toNat else (ns, none))
  else if o.k = 5 then (if inB ns o.a && inB ns o.b then pairN ns 5 o.a.toNat o.b.toNat 1 0 else (ns, none))
  else if o.k = 6 then (if inB ns o.a && inB ns o.b then pairN ns 6 o.a.toNat o.b.toNat 0 1 else (ns, none))
  else (ns, none)

theorem in_any (i n : Int) (p : Addr) (w : World) (h : w.cell? p = some (.int .i64 n)) :
    Calls Try.prog 96 #[.int .i64 i, .pointer (some p)] w fun e w' => e = .returned (.bool (decide (0 ≤ i) && decide (i < n))) ∧ w' = w := by
  by_cases h1 : 0 ≤ i
  · by_cases h2 : i < n
    · go_enter Try.func96, Try.ntmps96
      go_wp2_with fail
      go_ret
      exact ⟨by simp [h1, h2], rfl⟩
    · go_enter Try.func96, Try.ntmps96
      go_wp2_with fail
      go_ret
      exact ⟨by simp [h1, h2], rfl⟩
  · go_enter Try.func96, Try.ntmps96
    go_wp2_with fail
    go_ret
    exact ⟨by rw [decide_eq_false (show ¬ 0 ≤ i by omega)]; rfl, rfl⟩

structure DoPre (tb mb : Nat) (sv : Value) (ns : List Nd) (o : Nd) (w : World) (W1 W2 : World) : Prop where
  tab : Tab w tb mb sv ns
  t1 : Tab W1 tb mb sv ns
  t2 : Tab W2 tb mb sv ns
  f2 : Fr (TS tb mb sv) w W2
  len : Calls Try.prog 71 #[.pointer (some ⟨tb, 0, none⟩)] W1 fun e w' => e = .returned (.int .i64 (ns.length : Int)) ∧ w' = W1
  ins : ∀ i, Calls Try.prog 96 #[.int .i64 i, .pointer (some ⟨w.heap.size + 1, 0, none⟩)] W2 fun e w' => e = .returned (.bool (inB ns i)) ∧ w' = W2
theorem do_pre (tb mb : Nat) (sv : Value) (ns : List Nd) (o : Nd) (w : World) (h : Tab w tb mb sv ns) :
    DoPre tb mb sv ns o w (w.alloc (.cells #[.int .i64 o.k, .int .i64 o.a, .int .i64 o.b] 139)) ((w.alloc (.cells #[.int .i64 o.k, .int .i64 o.a, .int .i64 o.b] 139)).alloc (.cells #[.int .i64 ns.length] 3)) := by
  have f1 : Fr (fun _ => False) w (w.alloc (.cells #[.int .i64 o.k, .int .i64 o.a, .int .i64 o.b] 139)) := (Fr.refl _ _).alloc _
  have f2 : Fr (fun _ => False) w ((w.alloc (.cells #[.int .i64 o.k, .int .i64 o.a, .int .i64 o.b] 139)).alloc (.cells #[.int .i64 ns.length] 3)) := f1.alloc _
  have t1 := h.keep f1 (fun h => h) (fun h => h) (fun _ _ h => h)
  have t2 := h.keep f2 (fun h => h) (fun h => h) (fun _ _ h => h)
  refine ⟨h, t1, t2, f2.mono (fun _ _ h => h.elim), len_old _ _ _ _ _ t1, fun i => ?_⟩
  refine in_any i ns.length ⟨w.heap.size + 1, 0, none⟩ _ ?_
  have e : (w.alloc (.cells #[.int .i64 o.k, .int .i64 o.a, .int .i64 o.b] 139)).heap.size = w.heap.size + 1 := by simp
  have := heap_alloc_new (w.alloc (.cells #[.int .i64 o.k, .int .i64 o.a, .int .i64 o.b] 139)) (.cells #[.int .i64 ns.length] 3)
  rw [e] at this
  exact (cell_of_blk this 0).trans rfl

theorem DoPre.same {tb mb : Nat} {sv : Value} {ns : List Nd} {o : Nd} {w W1 W2 : World} (h : DoPre tb mb sv ns o w W1 W2) : After w W2 tb mb sv ns :=
  ⟨sv, h.t2, h.f2, fun _ hb => .inl hb⟩
theorem DoPre.aft {tb mb : Nat} {sv : Value} {ns ns' : List Nd} {o : Nd} {w W1 W2 W3 : World} (h : DoPre tb mb sv ns o w W1 W2) (ha : After W2 W3 tb mb sv ns') : After w W3 tb mb sv ns' :=
  After.trans h.f2 (fun _ hb => .inl hb) ha

set_option maxRecDepth 100000 in
set_option maxHeartbeats 4000000 in
theorem do_any (tb mb : Nat) (sv : Value) (ns : List Nd) (o : Nd) (w : World) (h : Tab w tb mb sv ns) (hneg : ∀ i, i < ns.length → (nd ns i).k = 4 → 0 ≤ (nd ns i).a) :
    Calls Try.prog 88 #[.pointer (some ⟨tb, 0, none⟩), .agg #[.int .i64 o.k, .int .i64 o.a, .int .i64 o.b]] w fun e w' => e = .returned (ansV (doN ns o).2) ∧ After w w' tb mb sv (doN ns o).1 := by
  have pre := do_pre tb mb sv ns o w h
  have h2 := h.two
  have hl0 : ¬ ((ns.length : Int) = 0) := by omega
  clear h2
  have PRE := Lib.hid pre
  have HN := Lib.hid hneg
  obtain ⟨k, a, b⟩ := o
  clear pre h hneg
  unfold doN
  simp only at PRE ⊢
  by_cases k1 : k = 1
  · subst k1
    simp only [if_true]
    go_enter Try.func88, Try.ntmps88
    go_wp2_with (first | (go_at_call 71; refine PRE.out.len.mono ?_; rintro e w' ⟨rfl, rfl⟩) | (go_at_call 96; refine (PRE.out.ins _).mono ?_; rintro e w' ⟨rfl, rfl⟩) | (go_at_call 97; refine (HP.out _ PRE.out.t2).mono ?_; rintro e w' ⟨rfl, haft⟩) | (go_at_call 98; refine (HP.out _ PRE.out.t2).mono ?_; rintro e w' ⟨rfl, haft⟩) | (go_at_call 99; refine (HP.out _ PRE.out.t2).mono ?_; rintro e w' ⟨rfl, haft⟩))
    go_ret2
    exact ⟨rfl, PRE.out.same⟩
  by_cases k2 : k = 2
  · subst k2
    simp only [k1, if_false, if_true]
    go_enter Try.func88, Try.ntmps88
    go_wp2_with (first | (go_at_call 71; refine PRE.out.len.mono ?_; rintro e w' ⟨rfl, rfl⟩) | (go_at_call 96; refine (PRE.out.ins _).mono ?_; rintro e w' ⟨rfl, rfl⟩) | (go_at_call 97; refine (HP.out _ PRE.out.t2).mono ?_; rintro e w' ⟨rfl, haft⟩) | (go_at_call 98; refine (HP.out _ PRE.out.t2).mono ?_; rintro e w' ⟨rfl, haft⟩) | (go_at_call 99; refine (HP.out _ PRE.out.t2).mono ?_; rintro e w' ⟨rfl, haft⟩))
    go_ret2
    exact ⟨rfl, PRE.out.same⟩
  by_cases k3 : k = 3
  · subst k3
    simp only [k1, k2, if_false, if_true]
    by_cases ha : 0 ≤ a
    · simp only [ha, if_true]
      have P := fun W (hW : Tab W tb mb sv ns) => put_any tb mb sv ns ⟨3, a, 0⟩ W hW
      simp only [ansV] at P
      have HP := Lib.hid P
      clear P
      go_enter Try.func88, Try.ntmps88
      go_wp2_with (first | (go_at_call 71; refine PRE.out.len.mono ?_; rintro e w' ⟨rfl, rfl⟩) | (go_at_call 96; refine (PRE.out.ins _).mono ?_; rintro e w' ⟨rfl, rfl⟩) | (go_at_call 97; refine (HP.out _ PRE.out.t2).mono ?_; rintro e w' ⟨rfl, haft⟩) | (go_at_call 98; refine (HP.out _ PRE.out.t2).mono ?_; rintro e w' ⟨rfl, haft⟩) | (go_at_call 99; refine (HP.out _ PRE.out.t2).mono ?_; rintro e w' ⟨rfl, haft⟩))
      go_ret2
      exact ⟨rfl, PRE.out.aft haft⟩
    · simp only [ha, if_false]
      go_enter Try.func88, Try.ntmps88
      go_wp2_with (first | (go_at_call 71; refine PRE.out.len.mono ?_; rintro e w' ⟨rfl, rfl⟩) | (go_at_call 96; refine (PRE.out.ins _).mono ?_; rintro e w' ⟨rfl, rfl⟩) | (go_at_call 97; refine (HP.out _ PRE.out.t2).mono ?_; rintro e w' ⟨rfl, haft⟩) | (go_at_call 98; refine (HP.out _ PRE.out.t2).mono ?_; rintro e w' ⟨rfl, haft⟩) | (go_at_call 99; refine (HP.out _ PRE.out.t2).mono ?_; rintro e w' ⟨rfl, haft⟩))
      go_ret2
      exact ⟨rfl, PRE.out.same⟩
  by_cases k4 : k = 4
  · subst k4
    simp only [k1, k2, k3, if_false, if_true]
    cases ha : inB ns a with
    | true =>
      simp only [if_true]
      obtain ⟨m, rfl⟩ : ∃ m : Nat, a = m := ⟨a.toNat, by simp [inB] at ha; omega⟩
      have hm : m < ns.length := by simp [inB] at ha; omega
      have P := fun W (hW : Tab W tb mb sv ns) => not_any tb mb sv ns m W hW hm (HN.out m hm)
      simp only [ansV] at P
      have HP := Lib.hid P
      clear P
      rw [Int.toNat_natCast]
      go_enter Try.func88, Try.ntmps88
      go_wp2_with (first | (go_at_call 71; refine PRE.out.len.mono ?_; rintro e w' ⟨rfl, rfl⟩) | (go_at_call 96; refine (PRE.out.ins _).mono ?_; rintro e w' ⟨rfl, rfl⟩) | (go_at_call 97; refine (HP.out _ PRE.out.t2).mono ?_; rintro e w' ⟨rfl, haft⟩) | (go_at_call 98; refine (HP.out _ PRE.out.t2).mono ?_; rintro e w' ⟨rfl, haft⟩) | (go_at_call 99; refine (HP.out _ PRE.out.t2).mono ?_; rintro e w' ⟨rfl, haft⟩))
      go_ret2
      exact ⟨rfl, PRE.out.aft haft⟩
    | false =>
      simp only [Bool.false_eq_true, if_false]
      go_enter Try.func88, Try.ntmps88
      go_wp2_with (first | (go_at_call 71; refine PRE.out.len.mono ?_; rintro e w' ⟨rfl, rfl⟩) | (go_at_call 96; refine (PRE.out.ins _).mono ?_; rintro e w' ⟨rfl, rfl⟩) | (go_at_call 97; refine (HP.out _ PRE.out.t2).mono ?_; rintro e w' ⟨rfl, haft⟩) | (go_at_call 98; refine (HP.out _ PRE.out.t2).mono ?_; rintro e w' ⟨rfl, haft⟩) | (go_at_call 99; refine (HP.out _ PRE.out.t2).mono ?_; rintro e w' ⟨rfl, haft⟩))
      go_ret2
      exact ⟨rfl, PRE.out.same⟩
  by_cases k5 : k = 5
  · subst k5
    simp only [k1, k2, k3, k4, if_false, if_true]
    cases ha : inB ns a with
    | true =>
      cases hb : inB ns b with
      | true =>
        simp only [Bool.and_self, if_true]
        obtain ⟨m, rfl⟩ : ∃ m : Nat, a = m := ⟨a.toNat, by simp [inB] at ha; omega⟩
        have hm : m < ns.length := by simp [inB] at ha; omega
        obtain ⟨n, rfl⟩ : ∃ m : Nat, b = m := ⟨b.toNat, by simp [inB] at hb; omega⟩
        have hn : n < ns.length := by simp [inB] at hb; omega
        have P := fun W (hW : Tab W tb mb sv ns) => pair_any tb mb sv ns 5 m n 1 0 W hW hm hn
        simp only [ansV] at P
        have HP := Lib.hid P
        clear P
        rw [Int.toNat_natCast, Int.toNat_natCast]
        go_enter Try.func88, Try.ntmps88
        go_wp2_with (first | (go_at_call 71; refine PRE.out.len.mono ?_; rintro e w' ⟨rfl, rfl⟩) | (go_at_call 96; refine (PRE.out.ins _).mono ?_; rintro e w' ⟨rfl, rfl⟩) | (go_at_call 97; refine (HP.out _ PRE.out.t2).mono ?_; rintro e w' ⟨rfl, haft⟩) | (go_at_call 98; refine (HP.out _ PRE.out.t2).mono ?_; rintro e w' ⟨rfl, haft⟩) | (go_at_call 99; refine (HP.out _ PRE.out.t2).mono ?_; rintro e w' ⟨rfl, haft⟩))
        go_ret2
        exact ⟨rfl, PRE.out.aft haft⟩
      | false =>
        simp only [Bool.and_false, Bool.false_eq_true, if_false]
        go_enter Try.func88, Try.ntmps88
        go_wp2_with (first | (go_at_call 71; refine PRE.out.len.mono ?_; rintro e w' ⟨rfl, rfl⟩) | (go_at_call 96; refine (PRE.out.ins _).mono ?_; rintro e w' ⟨rfl, rfl⟩) | (go_at_call 97; refine (HP.out _ PRE.out.t2).mono ?_; rintro e w' ⟨rfl, haft⟩) | (go_at_call 98; refine (HP.out _ PRE.out.t2).mono ?_; rintro e w' ⟨rfl, haft⟩) | (go_at_call 99; refine (HP.out _ PRE.out.t2).mono ?_; rintro e w' ⟨rfl, haft⟩))
        go_ret2
        exact ⟨rfl, PRE.out.same⟩
    | false =>
      simp only [Bool.false_and, Bool.false_eq_true, if_false]
      go_enter Try.func88, Try.ntmps88
      go_wp2_with (first | (go_at_call 71; refine PRE.out.len.mono ?_; rintro e w' ⟨rfl, rfl⟩) | (go_at_call 96; refine (PRE.out.ins _).mono ?_; rintro e w' ⟨rfl, rfl⟩) | (go_at_call 97; refine (HP.out _ PRE.out.t2).mono ?_; rintro e w' ⟨rfl, haft⟩) | (go_at_call 98; refine (HP.out _ PRE.out.t2).mono ?_; rintro e w' ⟨rfl, haft⟩) | (go_at_call 99; refine (HP.out _ PRE.out.t2).mono ?_; rintro e w' ⟨rfl, haft⟩))
      go_ret2
      exact ⟨rfl, PRE.out.same⟩
  by_cases k6 : k = 6
  · subst k6
    simp only [k1, k2, k3, k4, k5, if_false, if_true]
    cases ha : inB ns a with
    | true =>
      cases hb : inB ns b with
      | true =>
        simp only [Bool.and_self, if_true]
        obtain ⟨m, rfl⟩ : ∃ m : Nat, a = m := ⟨a.toNat, by simp [inB] at ha; omega⟩
        have hm : m < ns.length := by simp [inB] at ha; omega
        obtain ⟨n, rfl⟩ : ∃ m : Nat, b = m := ⟨b.toNat, by simp [inB] at hb; omega⟩
        have hn : n < ns.length := by simp [inB] at hb; omega
        have P := fun W (hW : Tab W tb mb sv ns) => pair_any tb mb sv ns 6 m n 0 1 W hW hm hn
        simp only [ansV] at P
        have HP := Lib.hid P
        clear P
        rw [Int.toNat_natCast, Int.toNat_natCast]
        go_enter Try.func88, Try.ntmps88
        go_wp2_with (first | (go_at_call 71; refine PRE.out.len.mono ?_; rintro e w' ⟨rfl, rfl⟩) | (go_at_call 96; refine (PRE.out.ins _).mono ?_; rintro e w' ⟨rfl, rfl⟩) | (go_at_call 97; refine (HP.out _ PRE.out.t2).mono ?_; rintro e w' ⟨rfl, haft⟩) | (go_at_call 98; refine (HP.out _ PRE.out.t2).mono ?_; rintro e w' ⟨rfl, haft⟩) | (go_at_call 99; refine (HP.out _ PRE.out.t2).mono ?_; rintro e w' ⟨rfl, haft⟩))
        go_ret2
        exact ⟨rfl, PRE.out.aft haft⟩
      | false =>
        simp only [Bool.and_false, Bool.false_eq_true, if_false]
        go_enter Try.func88, Try.ntmps88
        go_wp2_with (first | (go_at_call 71; refine PRE.out.len.mono ?_; rintro e w' ⟨rfl, rfl⟩) | (go_at_call 96; refine (PRE.out.ins _).mono ?_; rintro e w' ⟨rfl, rfl⟩) | (go_at_call 97; refine (HP.out _ PRE.out.t2).mono ?_; rintro e w' ⟨rfl, haft⟩) | (go_at_call 98; refine (HP.out _ PRE.out.t2).mono ?_; rintro e w' ⟨rfl, haft⟩) | (go_at_call 99; refine (HP.out _ PRE.out.t2).mono ?_; rintro e w' ⟨rfl, haft⟩))
        go_ret2
        exact ⟨rfl, PRE.out.same⟩
    | false =>
      simp only [Bool.false_and, Bool.false_eq_true, if_false]
      go_enter Try.func88, Try.ntmps88
      go_wp2_with (first | (go_at_call 71; refine PRE.out.len.mono ?_; rintro e w' ⟨rfl, rfl⟩) | (go_at_call 96; refine (PRE.out.ins _).mono ?_; rintro e w' ⟨rfl, rfl⟩) | (go_at_call 97; refine (HP.out _ PRE.out.t2).mono ?_; rintro e w' ⟨rfl, haft⟩) | (go_at_call 98; refine (HP.out _ PRE.out.t2).mono ?_; rintro e w' ⟨rfl, haft⟩) | (go_at_call 99; refine (HP.out _ PRE.out.t2).mono ?_; rintro e w' ⟨rfl, haft⟩))
      go_ret2
      exact ⟨rfl, PRE.out.same⟩
  · simp only [k1, k2, k3, k4, k5, k6, if_false]
    go_enter Try.func88, Try.ntmps88
    go_wp2_with (first | (go_at_call 71; refine PRE.out.len.mono ?_; rintro e w' ⟨rfl, rfl⟩) | (go_at_call 96; refine (PRE.out.ins _).mono ?_; rintro e w' ⟨rfl, rfl⟩) | (go_at_call 97; refine (HP.out _ PRE.out.t2).mono ?_; rintro e w' ⟨rfl, haft⟩) | (go_at_call 98; refine (HP.out _ PRE.out.t2).mono ?_; rintro e w' ⟨rfl, haft⟩) | (go_at_call 99; refine (HP.out _ PRE.out.t2).mono ?_; rintro e w' ⟨rfl, haft⟩))
    go_ret2
    exact ⟨rfl, PRE.out.same⟩
end Go.Proofs.Ytbcabcdgblmnkaa
