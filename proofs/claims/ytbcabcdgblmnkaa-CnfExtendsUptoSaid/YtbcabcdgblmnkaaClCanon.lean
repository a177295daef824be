/- Contract of package clause: Canon. -/
import Derived.Test.YtbcabcdgblmnkaaClRef
import Derived.Test.YtbcabcdgblmnkaaShelf
import Derived.Lib.OwnBridge
import Derived.Lib.SortBridge
namespace Go.Proofs.Ytbcabcdgblmnkaa
open Go.RowKit Go.Shelf Go.Proofs
set_option linter.unusedVariables false
set_option linter.unusedSimpArgs false

/-- a row of integers in memory from block B on, that may be written. -/
def RowI (w : World) (B : Nat) (v : Value) (xs : List Int) : Prop :=
  ∃ A c, v = .slice A xs.length c ∧ xs.length ≤ c ∧ c ≤ maxLen ∧ Rd w 1 A xs.length (ints xs) ∧ ∀ a, A = some a → ∃ g cur, a = ⟨g, 0, none⟩ ∧ B ≤ g ∧ w.heap[g]? = some (.cells cur 3 (0, 0))
theorem OwnI.row {w : World} {B : Nat} {v : Value} {xs : List Int} (h : OwnI w B v xs) : RowI w B v xs := by
  obtain ⟨A, c, rfl, hnc, hr⟩ := h.form
  rcases h.2 with ⟨e, _⟩ | ⟨g, cap, cur, e, hg, hh, _, hm, _⟩
  · injection e with e1 e2 e3
    subst e1 e3
    exact ⟨none, 0, rfl, hnc, by unfold maxLen; omega, hr, fun a ha => by cases ha⟩
  · injection e with e1 e2 e3
    subst e1 e3
    exact ⟨_, c, rfl, hnc, hm, hr, fun a ha => by injection ha with ha; exact ⟨g, cur, ha.symm, hg, hh⟩⟩
theorem RowI.below {w w' : World} {B : Nat} {v : Value} {xs : List Int} (h : RowI w B v xs) (hb : Below w.heap.size w w') : RowI w' B v xs := by
  obtain ⟨A, c, e, h1, h2, h3, h4⟩ := h
  exact ⟨A, c, e, h1, h2, h3.below hb, fun a ha => by obtain ⟨g, cur, e, hg, hh⟩ := h4 a ha; exact ⟨g, cur, e, hg, (hb.block g (Array.getElem?_eq_some_iff.1 hh).1).trans hh⟩⟩
theorem RowI.more {w : World} {B B' : Nat} {v : Value} {xs : List Int} (h : RowI w B v xs) (hB : B' ≤ B) : RowI w B' v xs := by
  obtain ⟨A, c, e, h1, h2, h3, h4⟩ := h
  exact ⟨A, c, e, h1, h2, h3, fun a ha => by obtain ⟨g, cur, e, hg, hh⟩ := h4 a ha; exact ⟨g, cur, e, by omega, hh⟩⟩
theorem RowI.rd {w : World} {B : Nat} {v : Value} {xs : List Int} (h : RowI w B v xs) : ∃ A c, v = .slice A xs.length c ∧ xs.length ≤ c ∧ c ≤ maxLen ∧ Rd w 1 A xs.length (ints xs) := by
  obtain ⟨A, c, e, h1, h2, h3, _⟩ := h
  exact ⟨A, c, e, h1, h2, h3⟩
theorem RowI.nil (w : World) (B : Nat) : RowI w B (.slice none 0 0) [] := (OwnI.nil w B).row

/-- the literals. -/
abbrev LitT := { l : Int // IsLit l }
instance : Inhabited LitT := ⟨⟨1, by unfold IsLit; omega⟩⟩
def encL (l : LitT) : Value := .int .i64 l.1
def cfL (a b : LitT) : Int := ordI a.1 b.1
theorem ltL (a b : LitT) : ltOf cfL a b = ahd a.1 b.1 := ordI_lt a.1 b.1
theorem swoL : Sort.SWO (ltOf cfL) := ⟨fun x => by rw [ltL]; exact ahd_irrefl _, fun x y z h1 h2 => by rw [ltL] at *; exact ahd_trans h1 h2, fun x y z h1 h2 => by
  rw [ltL] at *
  cases h : ahd x.1 z.1 with
  | false => rfl
  | true =>
    rw [ahd_iff] at h
    have h1' : ¬ ahd x.1 y.1 = true := by rw [h1]; simp
    have h2' : ¬ ahd y.1 z.1 = true := by rw [h2]; simp
    rw [ahd_iff] at h1' h2'
    omega⟩
theorem totL (x y : LitT) (h1 : ltOf cfL x y = false) (h2 : ltOf cfL y x = false) : x = y := by
  rw [ltL] at *
  exact Subtype.ext (ahd_total h1 h2)
theorem list_lit (xs : List Int) (h : ∀ l ∈ xs, IsLit l) : ∃ zs : List LitT, xs = zs.map (·.1) := by
  induction xs with
  | nil => exact ⟨[], rfl⟩
  | cons x xs ih =>
    obtain ⟨zs, rfl⟩ := ih fun l hl => h l (by simp [hl])
    exact ⟨⟨x, h x (by simp)⟩ :: zs, rfl⟩
theorem ints_lit (zs : List LitT) : ints (zs.map (·.1)) = zs.map encL := by simp [ints, encL]

theorem clone_any (xs : List Int) (A : Option Addr) (n c : Nat) (w : World) (hl : xs.length = n) (hnc : n ≤ c) (hn : n ≤ 1000000) (hr : Rd w 1 A n (ints xs)) :
    Calls Try.prog 44 #[.slice A n c] w fun e w' => ∃ v, e = .returned v ∧ OwnI w' w.heap.size v xs ∧ Below w.heap.size w w' := by
  rcases Nat.eq_zero_or_pos n with h0 | h0
  · subst h0
    have hx : xs = [] := List.eq_nil_of_length_eq_zero hl
    subst hx
    cases A with
    | none =>
      refine (Try.slices_Clone_int_nil 0 c w).mono ?_
      rintro e w' ⟨rfl, rfl⟩
      exact ⟨_, rfl, OwnI.nil _ _, Below.refl _ _⟩
    | some a =>
      refine (Try.slices_Clone_int_zero a c w).mono ?_
      rintro e w' ⟨v, rfl, h1, _, h2⟩
      exact ⟨v, rfl, h1, h2⟩
  · obtain ⟨b, off, rfl, hc⟩ := hr.2 h0
    refine (Try.slices_Clone_int b off n c xs w (by omega) (by omega) (fun j hj => ?_)).mono ?_
    · refine hc j _ ?_
      simp only [ints, List.getElem?_map, List.getD_eq_getElem?_getD, List.getElem?_eq_getElem hj]
      rfl
    · rintro e w' ⟨v, rfl, h1, _, h2⟩
      rw [List.take_of_length_le (by omega)] at h1
      exact ⟨v, rfl, by unfold OwnI; rw [hl]; exact h1, h2⟩

theorem grow_below {w : World} (os : Array Obj) : Below w.heap.size w (Sort.grow w os) :=
  ⟨rfl, rfl, rfl, by simp, fun k hk => Sort.heap_grow_old w os hk⟩
theorem own_put {w : World} {B g n cap q k : Nat} {zs ys : List LitT} (h : w.ownsRow B 3 1 (.slice (some ⟨g, 0, none⟩) n cap) n (zs.map encL)) (hy : ys.length = n) :
    (Sort.putRow encL (Sort.ahead w q) g 0 ys.toArray).ownsRow B 3 1 (.slice (some ⟨g, 0, none⟩) n cap) n (ys.map encL) := by
  have := Lib.ownsRow_putRow (q := q) (k := n) h hy (Nat.le_refl _)
  rwa [List.take_of_length_le (by omega)] at this

theorem eg_order : ∀ args w, (callFunc 46 args).run Try.prog w = .ok (.enter 46 args) w := enters_of Try.func46 (by kernel_rfl) rfl
theorem sort_any (xs : List Int) (B : Nat) (v : Value) (w : World) (hn : xs.length ≤ 1000000) (hlit : ∀ l ∈ xs, IsLit l) (ho : OwnI w B v xs) :
    Calls Try.prog 45 #[v, .func (.func 46) #[] #[]] w fun e w' => e = .returned (.tuple #[]) ∧ ∃ ys, OwnI w' B v ys ∧ ys.length = xs.length ∧ (∀ a, a ∈ ys ↔ a ∈ xs) ∧ (ys.Pairwise fun a b => ahd b a = false) ∧ ∀ W0, Below B W0 w → Below B W0 w' := by
  by_cases hv : v = .slice none 0 0
  · subst hv
    have hx : xs = [] := by
      rcases ho.2 with ⟨_, h⟩ | ⟨g, cap, cur, e, _⟩
      · exact List.eq_nil_of_length_eq_zero h
      · cases e
    subst hx
    refine (Try.slices_SortFunc_none (α := Int) none 0 _ w).mono ?_
    rintro e w' ⟨rfl, rfl⟩
    exact ⟨rfl, [], ho, rfl, fun a => Iff.rfl, List.Pairwise.nil, fun W0 h => h⟩
  · obtain ⟨zs, rfl⟩ := list_lit xs hlit
    have ho' : w.ownsRow B 3 1 v zs.length (zs.map encL) := by
      have := ho
      unfold OwnI at this
      rwa [ints_lit, List.length_map] at this
    obtain ⟨g, cap, rfl, hBg, hgw, hnc, hm, _, hH⟩ := Lib.holds_of_ownsRow ho' hv
    have hsz : zs.toArray.size = zs.length := by simp
    rw [List.length_map] at hn
    have hcall := Try.slices_SortFunc_total encL (fun _ => rfl) cfL swoL 46 #[] g 0 cap zs.toArray w eg_order
      (CmpReads.lays fun m os dk _ x y => (order_lit x.1 y.1 _ x.2 y.2).mono fun e w' ⟨h1, h2⟩ => ⟨h1, 0, h2⟩) hH hgw (by rw [hsz]; omega) totL
    rw [hsz] at hcall
    refine hcall.mono ?_
    rintro e w' ⟨rfl, q, os, rfl⟩
    have hperm := List.mergeSort_perm zs (fun x y => !(ltOf cfL) y x)
    have hsorted : (zs.mergeSort fun x y => !(ltOf cfL) y x).Pairwise fun a b => (!(ltOf cfL) b a) = true := by
      refine List.pairwise_mergeSort ?_ ?_ zs
      · intro a b c h1 h2
        simp only [Bool.not_eq_true'] at *
        exact swoL.ntrans c b a h2 h1
      · intro a b
        simp only [Bool.or_eq_true, Bool.not_eq_true']
        cases h : ltOf cfL b a with
        | false => exact .inl rfl
        | true =>
          right
          rw [ltL] at *
          exact ahd_asymm h
    generalize zs.mergeSort (fun x y => !(ltOf cfL) y x) = ys at *
    have hyl : ys.length = zs.length := hperm.length_eq
    have hown := own_put (q := q) (k := 0) (ys := ys) ho' hyl
    refine ⟨rfl, ys.map (·.1), ?_, by simp [hyl], fun a => ?_, ?_, fun W0 h => ?_⟩
    · unfold OwnI
      rw [ints_lit, List.length_map, hyl]
      exact own_below hown (grow_below os)
    · simp only [List.mem_map]
      constructor
      · rintro ⟨y, hy, rfl⟩; exact ⟨y, hperm.mem_iff.1 hy, rfl⟩
      · rintro ⟨y, hy, rfl⟩; exact ⟨y, hperm.mem_iff.2 hy, rfl⟩
    · rw [List.pairwise_map]
      refine hsorted.imp ?_
      intro a b h
      rw [ltL] at h
      simpa using h
    · exact (Lib.below_putRow h hBg).trans ((grow_below os).mono (by simp [Sort.putRow, Sort.mapBlock, Sort.ahead]; omega))
theorem compact_any (ys : List Int) (B : Nat) (v : Value) (w : World) (hn : ys.length ≤ 1000000) (ho : OwnI w B v ys) :
    Calls Try.prog 48 #[v] w fun e w' => ∃ v', e = .returned v' ∧ OwnI w' B v' (Lib.compact ys) ∧ ∀ W0, Below B W0 w → Below B W0 w' := by
  by_cases hv : v = .slice none 0 0
  · subst hv
    have hx : ys = [] := by
      rcases ho.2 with ⟨_, h⟩ | ⟨g, cap, cur, e, _⟩
      · exact List.eq_nil_of_length_eq_zero h
      · cases e
    subst hx
    refine (Try.slices_Compact_int_empty none 0 w).mono ?_
    rintro e w' ⟨rfl, rfl⟩
    exact ⟨_, rfl, ho, fun W0 h => h⟩
  · obtain ⟨g, cap, rfl, hBg, hgw, hnc, hm, _, hH⟩ := Lib.holds_of_ownsRow ho hv
    refine (Try.slices_Compact_int g 0 cap ys w hH (by omega) hnc).mono ?_
    rintro e w' ⟨rfl, q, rfl⟩
    have hle := Lib.compact_length_le ys
    have hown := Lib.ownsRow_putRow (q := q) (k := (Lib.compact ys).length) (ys := Lib.compact ys ++ List.replicate (ys.length - (Lib.compact ys).length) 0) ho (by simp; omega) hle
    rw [List.take_left' rfl] at hown
    exact ⟨_, rfl, hown, fun W0 h => Lib.below_putRow h hBg⟩
end Go.Proofs.Ytbcabcdgblmnkaa

namespace Go.Proofs.Ytbcabcdgblmnkaa
open Go.RowKit
set_option linter.unusedVariables false
set_option linter.unusedSimpArgs false

theorem clip_any (A : Option Addr) (n c : Nat) (w : World) (hnc : n ≤ c) (hc : c ≤ maxLen) : Calls Try.prog 47 #[.slice A n c] w fun e w' => e = .returned (.slice A n n) ∧ w' = w := by
  unfold maxLen at hc
  have h0 : (0 : Int) ≤ (n : Int) := by omega
  have h1 : (n : Int) ≤ (c : Int) := by omega
  cases A with
  | none =>
    go_enter Try.func47, Try.ntmps47
    go_wp2_with fail
    go_ret
    exact ⟨by simp, rfl⟩
  | some a =>
    go_enter Try.func47, Try.ntmps47
    go_wp2_with fail
    go_ret
    exact ⟨by simp, rfl⟩

set_option maxRecDepth 100000 in
set_option maxHeartbeats 4000000 in
theorem canon_good (xs : List Int) (A : Option Addr) (n c : Nat) (w : World) (hl : xs.length = n) (hnc : n ≤ c) (hn : n ≤ 1000000) (hr : Rd w 1 A n (ints xs)) (hlit : ∀ l ∈ xs, IsLit l) :
    Calls Try.prog 21 #[.slice A n c] w fun e w' => ∃ v, e = .returned (.tuple #[v, .int .i64 0]) ∧ RowI w' w.heap.size v (canonI xs) ∧ Below w.heap.size w w' := by
  have hcl := clone_any xs A n c w hl hnc hn hr
  have hso := fun v w1 (ho : OwnI w1 w.heap.size v xs) => sort_any xs w.heap.size v w1 (by omega) hlit ho
  have hco := fun ys v w1 (hy : ys.length = xs.length) (ho : OwnI w1 w.heap.size v ys) => compact_any ys w.heap.size v w1 (by omega) ho
  have hcc := fun ys (hm : ∀ a, a ∈ ys ↔ a ∈ xs) hs => compact_canon xs ys hm hs
  have hlen := canonI_len xs
  have HCL := Lib.hid hcl
  have HSO := Lib.hid hso
  have HCO := Lib.hid hco
  have HCC := Lib.hid hcc
  have HR := Lib.hid hr
  have HLIT := Lib.hid hlit
  clear hcl hso hco hcc hr hlit
  go_enter Try.func21, Try.ntmps21
  go_wp2_with fail
  go_loop [9] (fun x => ∃ (i : Nat), i ≤ n ∧ x = .int .i64 i) (fun x => n - (intOf x).toNat)
  case atStart => exact ⟨0, Nat.zero_le _, rfl⟩
  case round =>
    obtain ⟨i, hi', rfl⟩ := hrel
    by_cases hlt : i < n
    · obtain ⟨b, off, rfl, hc⟩ := HR.out.int i hlt hl
      obtain ⟨hz, h1, h2⟩ := HLIT.out _ (getD_mem xs i (by omega))
      generalize xs.getD i 0 = l at *
      have hs := size_lit l w h1 h2
      have hna : ((l.natAbs : Int) == 0) = false := by
        rw [beq_eq_false_iff_ne]
        omega
      have hna2 : ¬ l = 0 := hz
      generalize (l.natAbs : Int) = k at *
      go_wp2_with (go_at_call 43; refine hs.mono ?_; rintro e w' ⟨rfl, hw⟩; obtain rfl := hw.symm)
      go_round
      case rel => exact ⟨i + 1, by omega, by go_num⟩
      case measure => simp [intOf]; omega
    · go_wp2_with (first | (go_at_call 44; refine HCL.out.mono ?_; rintro e w1 ⟨v1, rfl, ho1, hb1⟩; have HO1 := Lib.hid ho1; clear ho1) | (go_at_call 45; refine (HSO.out _ _ HO1.out).mono ?_; rintro e w2 ⟨rfl, ys, ho2, hy, hm, hs, hB2⟩; have hb2 := hB2 w hb1; have hcc := HCC.out ys hm hs; have HO2 := Lib.hid ho2; have HY := Lib.hid (HCO.out ys _ _ hy ho2); clear ho2 hy hm hs hB2) | (go_at_call 48; refine HY.out.mono ?_; rintro e w3 ⟨v3, rfl, ho3, hB3⟩; have hb3 := hB3 w hb2; rw [hcc] at ho3; have hr3 := ho3.row; obtain ⟨A3, c3, rfl, hn3, hm3, hrd3, hg3⟩ := hr3; have HR3 := Lib.hid (And.intro hrd3 hg3); have hcp := clip_any A3 (canonI xs).length c3 w3 hn3 hm3; clear hcc ho3 hB3 hrd3 hg3) | (go_at_call 47; refine hcp.mono ?_; rintro e w4 ⟨rfl, hw⟩; obtain rfl := hw.symm))
      go_ret2
      refine ⟨_, rfl, ⟨A3, _, rfl, Nat.le_refl _, by unfold maxLen; omega, HR3.out.1, HR3.out.2⟩, hb3⟩
set_option maxRecDepth 100000 in
set_option maxHeartbeats 4000000 in
theorem canon_bad (xs : List Int) (A : Option Addr) (n c : Nat) (w : World) (hl : xs.length = n) (hn : n ≤ 1000000) (hr : Rd w 1 A n (ints xs)) (hw : ∀ l ∈ xs, IsI64 l) (hbad : goodB xs = false) :
    Calls Try.prog 21 #[.slice A n c] w fun e w' => e = .returned (.tuple #[.slice none 0 0, .int .i64 4]) ∧ w' = w := by
  have HR := Lib.hid hr
  have HW := Lib.hid hw
  have HC := Lib.hid hbad
  clear hr hw hbad
  go_enter Try.func21, Try.ntmps21
  go_wp2_with fail
  go_loop [9] (fun x => ∃ (i : Nat), i ≤ n ∧ x = .int .i64 i ∧ goodB (xs.drop i) = false) (fun x => n - (intOf x).toNat)
  case atStart => exact ⟨0, Nat.zero_le _, rfl, by rw [List.drop_zero]; exact HC.out⟩
  case round =>
    obtain ⟨i, hi', rfl, hC⟩ := hrel
    by_cases hlt : i < n
    · obtain ⟨b, off, rfl, hc⟩ := HR.out.int i hlt hl
      obtain ⟨h1, h2⟩ := HW.out _ (getD_mem xs i (by omega))
      rw [drop_getD xs i (by omega), goodB_cons] at hC
      generalize xs.getD i 0 = l at *
      by_cases hz : l = 0
      · subst hz
        have hs := size_lit 0 w (by omega) (by omega)
        rw [show (((0 : Int).natAbs : Nat) : Int) = 0 from rfl] at hs
        clear hC
        go_wp2_with (go_at_call 43; refine hs.mono ?_; rintro e w' ⟨rfl, hw⟩; obtain rfl := hw.symm)
        go_ret2
        exact ⟨rfl, rfl⟩
      · rw [if_neg hz] at hC
        by_cases hm : l = -9223372036854775808
        · subst hm
          have hs := size_min w
          clear hC h1 h2 hz
          go_wp2_with (go_at_call 43; refine hs.mono ?_; rintro e w' ⟨rfl, hw⟩; obtain rfl := hw.symm)
          go_ret2
          exact ⟨rfl, rfl⟩
        · rw [if_neg hm] at hC
          have hs := size_lit l w (by omega) h2
          have hna : ((l.natAbs : Int) == 0) = false := by
            rw [beq_eq_false_iff_ne]
            omega
          generalize (l.natAbs : Int) = k at *
          have HCC := Lib.hid hC
          clear hC
          go_wp2_with (go_at_call 43; refine hs.mono ?_; rintro e w' ⟨rfl, hw⟩; obtain rfl := hw.symm)
          go_round
          case rel => exact ⟨i + 1, by omega, by go_num, HCC.out⟩
          case measure => simp [intOf]; omega
    · obtain rfl : i = n := by omega
      rw [List.drop_of_length_le (by omega)] at hC
      cases hC
theorem canon_any (xs : List Int) (A : Option Addr) (n c : Nat) (w : World) (hl : xs.length = n) (hnc : n ≤ c) (hn : n ≤ 1000000) (hr : Rd w 1 A n (ints xs)) (hw : ∀ l ∈ xs, IsI64 l) :
    Calls Try.prog 21 #[.slice A n c] w fun e w' => ∃ v, e = .returned (.tuple #[v, .int .i64 (if goodB xs = true then 0 else 4)]) ∧ RowI w' w.heap.size v (if goodB xs = true then canonI xs else []) ∧ Below w.heap.size w w' := by
  cases hg : goodB xs with
  | true =>
    rw [if_pos rfl, if_pos rfl]
    exact canon_good xs A n c w hl hnc hn hr (good_lit hg hw)
  | false =>
    rw [if_neg (by simp), if_neg (by simp)]
    refine (canon_bad xs A n c w hl hn hr hw hg).mono ?_
    rintro e w' ⟨rfl, rfl⟩
    exact ⟨_, rfl, RowI.nil _ _, Below.refl _ _⟩

/-- two clauses at once. -/
def bothG (xs ys : List Int) : Bool := goodB xs && goodB ys
set_option maxRecDepth 100000 in
set_option maxHeartbeats 4000000 in
theorem both_any (xs ys : List Int) (A A2 : Option Addr) (n c m c2 : Nat) (w : World) (hl : xs.length = n) (hnc : n ≤ c) (hn : n ≤ 1000000) (hr : Rd w 1 A n (ints xs)) (hw : ∀ l ∈ xs, IsI64 l)
    (hl2 : ys.length = m) (hnc2 : m ≤ c2) (hm : m ≤ 1000000) (hr2 : Rd w 1 A2 m (ints ys)) (hw2 : ∀ l ∈ ys, IsI64 l) :
    Calls Try.prog 40 #[.slice A n c, .slice A2 m c2] w fun e w' => ∃ v1 v2, e = .returned (.tuple #[v1, v2, .int .i64 (if bothG xs ys = true then 0 else 4)]) ∧
      RowI w' w.heap.size v1 (if bothG xs ys = true then canonI xs else []) ∧ RowI w' w.heap.size v2 (if bothG xs ys = true then canonI ys else []) ∧ Below w.heap.size w w' := by
  unfold bothG
  have h1 := canon_any xs A n c w hl hnc hn hr hw
  have h2 := fun w1 (hb : Below w.heap.size w w1) => canon_any ys A2 m c2 w1 hl2 hnc2 hm (hr2.below hb) hw2
  generalize canonI xs = cx at *
  generalize canonI ys = cy at *
  generalize goodB xs = gx at *
  generalize goodB ys = gy at *
  have H1 := Lib.hid h1
  have H2 := Lib.hid h2
  clear h1 h2 hr hr2 hw hw2
  cases gx with
  | false =>
    have h1 := H1.out
    rw [if_neg (by simp), if_neg (by simp)] at h1
    clear H1
    rw [Bool.false_and, if_neg (by simp), if_neg (by simp), if_neg (by simp)]
    go_enter Try.func40, Try.ntmps40
    go_wp2_with (go_at_call 21; refine h1.mono ?_; rintro e w1 ⟨v1, rfl, ho1, hb1⟩; have HO1 := Lib.hid ho1; clear ho1)
    go_ret3
    exact ⟨_, _, rfl, RowI.nil _ _, RowI.nil _ _, hb1⟩
  | true =>
    have h1 := H1.out
    rw [if_pos rfl, if_pos rfl] at h1
    clear H1
    rw [Bool.true_and]
    cases gy with
    | false =>
      have h2 := H2.out
      simp only [Bool.false_eq_true, if_false] at h2
      have HH2 := Lib.hid h2
      clear H2 h2
      rw [if_neg (by simp), if_neg (by simp), if_neg (by simp)]
      go_enter Try.func40, Try.ntmps40
      go_upto_region 4 with (go_at_call 21; refine h1.mono ?_; rintro e w1 ⟨v1, rfl, ho1, hb1⟩; have HO1 := Lib.hid ho1; clear ho1)
      go_wp2_with (go_at_call 21; refine (HH2.out _ hb1).mono ?_; rintro e w2 ⟨v2, rfl, ho2, hb2⟩; have HO2 := Lib.hid ho2; clear ho2)
      go_ret3
      exact ⟨_, _, rfl, RowI.nil _ _, RowI.nil _ _, hb1.trans (hb2.mono hb1.size)⟩
    | true =>
      have h2 := H2.out
      simp only [if_true] at h2
      have HH2 := Lib.hid h2
      clear H2 h2
      rw [if_pos rfl, if_pos rfl, if_pos rfl]
      go_enter Try.func40, Try.ntmps40
      go_upto_region 4 with (go_at_call 21; refine h1.mono ?_; rintro e w1 ⟨v1, rfl, ho1, hb1⟩; have HO1 := Lib.hid ho1; clear ho1)
      go_wp2_with (go_at_call 21; refine (HH2.out _ hb1).mono ?_; rintro e w2 ⟨v2, rfl, ho2, hb2⟩; have HO2 := Lib.hid ho2; clear ho2)
      go_ret3
      exact ⟨_, _, rfl, HO1.out.below hb2, HO2.out.more hb1.size, hb1.trans (hb2.mono hb1.size)⟩
end Go.Proofs.Ytbcabcdgblmnkaa
