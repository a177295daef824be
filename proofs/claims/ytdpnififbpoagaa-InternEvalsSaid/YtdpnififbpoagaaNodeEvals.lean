/- attestlaw10.InternEvals: the walk. -/
import Derived.Test.YtdpnififbpoagaaNodePlays
import Derived.Test.YtdpnififbpoagaaNodeReach2
import Derived.Test.YtdpnififbpoagaaNodeMeans2
import Derived.Test.YtdpnififbpoagaaRefEval
import Derived.Deep.RegionHeld3
namespace Go.Proofs.Ytdpnififbpoagaa
open Go.RowKit
set_option linter.unusedVariables false
set_option linter.unusedSimpArgs false

theorem Good.b4 {ns : List Nd} (h : Good ns) (i : Nat) (hi : i < ns.length) (hk : (nd ns i).k = 4) : (nd ns i).b = 0 := by
  by_cases h2 : 2 ≤ i
  · rcases h.parts i h2 hi with ⟨h1, _⟩ | ⟨h1, _, _, h3, _⟩ | ⟨h1, _⟩
    · omega
    · exact h3
    · omega
  · have : i = 0 ∨ i = 1 := by omega
    rcases this with rfl | rfl
    · rw [h.n0]
    · rw [h.n1]
/-- Node at whatever number. -/
def nodeV (ns : List Nd) (i : Int) : Nd := if inB ns i then nd ns i.toNat else ⟨0, 0, 0⟩
theorem node_any (tb mb : Nat) (sv : Value) (ns : List Nd) (i : Int) (w : World) (h : Tab w tb mb sv ns) :
    Calls Try.prog 41 #[.pointer (some ⟨tb, 0, none⟩), .int .i64 i] w fun e w' => e = .returned (.tuple #[.agg #[.int .i64 (nodeV ns i).k, .int .i64 (nodeV ns i).a, .int .i64 (nodeV ns i).b], .bool (inB ns i)]) ∧ Below w.heap.size w w' := by
  unfold nodeV
  cases hi : inB ns i with
  | false => exact node_out tb mb sv ns i w h hi
  | true =>
    have hlt := inB_nat hi
    obtain ⟨k, rfl⟩ : ∃ k : Nat, i = k := ⟨i.toNat, by simp [inB] at hi; omega⟩
    simpa using node_in tb mb sv ns k w h (by simpa using hlt)
def reachV (ns : List Nd) (i : Int) : List Nat := if inB ns i then reachL (needN ns i.toNat) (i.toNat + 1) else []
theorem reach_any (tb mb : Nat) (sv : Value) (ns : List Nd) (i : Int) (w : World) (h : Tab w tb mb sv ns) (hG : Good ns) :
    Calls Try.prog 40 #[.pointer (some ⟨tb, 0, none⟩), .int .i64 i] w fun e w' => ∃ v, e = .returned v ∧ w'.ownsRow w.heap.size 3 1 v (reachV ns i).length (natL (reachV ns i)) ∧ Below w.heap.size w w' := by
  unfold reachV
  cases hi : inB ns i with
  | false =>
    refine (reach_out tb mb sv ns i w h hi).mono ?_
    rintro e w' ⟨rfl, rfl⟩
    exact ⟨_, rfl, World.ownsRow_nil _ _ _ _, Below.refl _ _⟩
  | true =>
    have hlt := inB_nat hi
    obtain ⟨k, rfl⟩ : ∃ k : Nat, i = k := ⟨i.toNat, by simp [inB] at hi; omega⟩
    simpa using reach_in tb mb sv ns k w h hG (by simpa using hlt)

theorem below_drew {B : Nat} {a w : World} (h : Below B a w) : Below B a w.drew := ⟨h.os, h.tape, h.output, h.size, h.block⟩
theorem below_trans2 {w w1 w2 : World} (h1 : Below w.heap.size w w1) (h2 : Below w1.heap.size w1 w2) : Below w.heap.size w w2 := h1.trans (h2.mono h1.size)

theorem set_getD (r : List Bool) (a : Nat) (b : Bool) (h : a < r.length) : (r.set a b).getD a false = b := by
  rw [List.getD_eq_getElem?_getD, List.getElem?_set_self h]
  rfl
/-- the row of what is needed, and a row of ints beside it. -/
structure RStW (B : Nat) (w wr : World) (r : List Bool) (i : Nat) (v : Value) (m : Nat) (xs : List Value) : Prop where
  st : RSt B w wr r i
  own : wr.ownsRow B 3 1 v m xs
section
variable {B : Nat} {w wr : World} {r : List Bool} {i m : Nat} {v : Value} {xs : List Value}
theorem RStW.alloc (h : RStW B w wr r i v m xs) (hB : B ≤ w.heap.size) (o : Obj) : RStW B w (wr.alloc o) r i v m xs := ⟨h.st.alloc hB o, h.own.alloc o⟩
theorem RStW.set (h : RStW B w wr r i v m xs) (hB : B ≤ w.heap.size) (a : Nat) (b : Bool) : RStW B w (wr.setCell ⟨B, a, none⟩ (.bool b)) (r.set a b) i v m xs :=
  ⟨h.st.set hB a b, ((Fr.refl (fun b => b = B) wr).setCell ⟨B, a, none⟩ (.bool b) (.inl rfl)).own h.own (fun b hb he => own_type h.own h.st.blk (by decide) (he ▸ hb))⟩
theorem RStW.drew (h : RStW B w wr r i v m xs) : RStW B w wr.drew r i v m xs := ⟨⟨h.st.blk, below_drew h.st.bel, h.st.len⟩, h.own⟩
end
theorem set_same (r : List Bool) (a : Nat) (z : Bool) (h : r.getD a false = z) (ha : a < r.length) : r.set a z = r := by
  apply List.ext_getElem?
  intro i
  by_cases hi : i = a
  · subst hi
    rw [List.getElem?_set_self ha, ← h, List.getD_eq_getElem?_getD, List.getElem?_eq_getElem ha]
    rfl
  · rw [List.getElem?_set_ne (by omega)]

set_option maxRecDepth 100000 in
set_option maxHeartbeats 8000000 in
theorem evals_walk (os : List Nd) (A : Option Addr) (n c : Nat) (i : Int) (vals : List Bool) (A2 : Option Addr) (n2 c2 : Nat) (w : World) (hl : os.length = n) (hnc : n ≤ c) (hc : c ≤ maxLen) (hr : Rd w 3 A n (ndCells os))
    (hl2 : vals.length = n2) (hnc2 : n2 ≤ c2) (hc2 : c2 * 1 ≤ 140737488351232) (hr2 : Rd w 1 A2 n2 (boolL vals)) :
    Calls Try.prog 11 #[.slice A n c, .int .i64 i, .slice A2 n2 c2] w fun e w' => e = .returned (.bool true) ∧ Below w.heap.size w w' := by
  obtain ⟨i0, hinf, hz0, hz1, hz2⟩ := info_parts info_bool
  obtain ⟨j0, hjnf, hy0, hy1, hy2⟩ := info_parts info_int
  have hf := few_any os A n c _ hl hnc hc hr
  have haw := awake_any
  have hgood := good_play (os.take 200)
  have hlt : (os.take 200).length ≤ 200 := by rw [List.length_take]; omega
  have hlp := len_playN (os.take 200)
  have htb := fun A' c' W hr' => table_any (os.take 200) A' (os.take 200).length c' W rfl (by omega) hr'
  have hrl := fun A' c' W hr' => played_any (os.take 200) A' (os.take 200).length c' W rfl (by omega) hr'
  generalize (playN (os.take 200)).1 = ns at *
  generalize (playN (os.take 200)).2 = ans at *
  generalize os.take 200 = os2 at *
  have hea := fun tb mb sv W A' c' (hW : Tab W tb mb sv ns) hr' => eval_any tb mb sv ns i vals A' n2 c' W hW hgood hl2 hr'
  have hre := fun tb mb sv W (hW : Tab W tb mb sv ns) => reach_any tb mb sv ns i W hW hgood
  have hno := fun tb mb sv W (hW : Tab W tb mb sv ns) => node_any tb mb sv ns i W hW
  have hrv : reachV ns i = if inB ns i then reachL (needN ns i.toNat) (i.toNat + 1) else [] := rfl
  have hnv : nodeV ns i = if inB ns i then nd ns i.toNat else ⟨0, 0, 0⟩ := rfl
  have hin : inB ns i = (decide (0 ≤ i) && decide (i < ns.length)) := rfl
  generalize hrv' : reachV ns i = RL at *
  generalize hnv' : nodeV ns i = X at *
  obtain ⟨xk, xa, xb⟩ := X
  simp only at hno
  generalize hev : (inB ns i && ev ns vals i.toNat) = y at *
  generalize hin' : inB ns i = yes at *
  have HG := Lib.hid hgood
  have HEA := Lib.hid hea
  have HRE := Lib.hid hre
  have HNO := Lib.hid hno
  have HTB := Lib.hid htb
  have HRL := Lib.hid hrl
  have HR2 := Lib.hid hr2
  have HRV := Lib.hid hrv
  have HNV := Lib.hid hnv
  have HIN := Lib.hid hin
  have HEV := Lib.hid hev
  clear hea hre hno htb hrl hr2 hr hgood hrv hnv hrv' hnv' hin hev hin'
  go_enter Try.func11, Try.ntmps11
  go_wp2_with (first | (go_at_call 15; refine hf.mono ?_; clear hf; rintro e w1 ⟨v1, rfl, hown1, hb1⟩; obtain ⟨A1, c1, rfl, _, hr1⟩ := ownsRow_form hown1) | (go_at_call 19; refine (HTB.out _ _ _ hr1).mono ?_; rintro e w2 ⟨mb, sv, rfl, ht2, hb2⟩; have hr12 := hr1.below hb2) | (go_at_call 17; refine (HRL.out _ _ _ hr12).mono ?_; rintro e w3 ⟨v5, v6, rfl, hown5, hown6, hb3⟩; obtain ⟨A5, c5, rfl, _, hr5⟩ := ownsRow_form hown5; have ht3 := ht2.below hb3; have hr23 := HR2.out.below (below_trans2 (below_trans2 hb1 hb2) hb3)) | (at_builtin; refine appR w3.heap.size w3 (w3.alloc (.cells #[] 4)) 4 rfl _ _ 37 rfl i0 _ 1 Try.underlying37 hinf hz0 hz1 hz2 rfl (by decide) _ 0 [] rfl (Nat.le_refl _) (own_empty _ _ _ (Nat.le_refl _)) ((Below.refl _ _).alloc (Nat.le_refl _) _) A2 n2 c2 _ rfl (hr23.alloc _) (boolL_one vals) (by omega) ?_))
  intro v4 w4 hown4 hb4 _
  obtain ⟨A4, c4, rfl, _, hr4⟩ := ownsRow_form hown4
  have hr4' : Rd w4 1 A4 n2 (boolL vals) := by simpa using hr4
  have ht4 := (ht3.below hb4).tab
  have b03 := below_trans2 (below_trans2 hb1 hb2) hb3
  have b04 := below_trans2 b03 hb4
  have HR4 := Lib.hid hr4'
  have HT4 := Lib.hid ht4
  have HB4 := Lib.hid b04
  have HR5 := Lib.hid (hr5.below hb4)
  have HV4 := Lib.hid (HR2.out.below b04)
  clear hown4 hr4 hr4' ht4 b03 b04 hr5 hb4 hr23 ht3 hr12 ht2 hb1 hb2 hb3 hr1 hown1 hown5 hown6 HTB HRL HR2
  cases yes with
  | false =>
    have hx := HNV.out
    simp only [Bool.false_eq_true, if_false, Nd.mk.injEq] at hx
    obtain ⟨rfl, rfl, rfl⟩ := hx
    have hrl := HRV.out
    simp only [Bool.false_eq_true, if_false] at hrl
    subst hrl
    have hy := HEV.out
    simp only [Bool.false_and] at hy
    subst hy
    have ho : i < 0 ∨ (0 ≤ i ∧ (ns.length : Int) ≤ i) := by have := HIN.out; simp at this; omega
    clear HNV HRV HEV HIN
    rcases ho with ho | ⟨ho, ho'⟩
    ·
      go_wp2_with (first | (go_at_call 21; refine (HEA.out _ _ _ _ _ _ HT4.out HR4.out).mono ?_; rintro e w5 ⟨rfl, hb5⟩; have ht5 := HT4.out.below hb5) | (go_at_call 40; refine (HRE.out _ _ _ _ ht5).mono ?_; rintro e w6 ⟨v6, rfl, hown6, hb6⟩; obtain ⟨A6, c6, rfl, _, hr6⟩ := ownsRow_form hown6; have ht6 := ht5.below hb6) | (go_at_call 41; refine (HNO.out _ _ _ _ ht6).mono ?_; rintro e w7 ⟨rfl, hb7⟩; have HB7 := Lib.hid (below_trans2 (below_trans2 hb5 hb6) hb7); have HR7 := Lib.hid (hr6.below hb7); clear hb5 hb6 hb7 ht5 ht6 hr6 hown6) | (go_at_call 18; refine (haw _).mono ?_; rintro e w9 ⟨rfl, hb9⟩; have HB9 := Lib.hid hb9; have q0 := (hb9.cell (p := ⟨w7.heap.size, 0, none⟩) (by simp)).trans (cell_of_blk (heap_alloc_new w7 _) 0); have q1 := (hb9.cell (p := ⟨w7.heap.size, 1, none⟩) (by simp)).trans (cell_of_blk (heap_alloc_new w7 _) 1); have q2 := (hb9.cell (p := ⟨w7.heap.size, 2, none⟩) (by simp)).trans (cell_of_blk (heap_alloc_new w7 _) 2); clear hb9; simp at q0 q1 q2))
      go_ret
      exact ⟨rfl, below_trans2 (below_trans2 HB4.out HB7.out) (((Below.refl _ _).alloc (Nat.le_refl _) _).trans (HB9.out.mono (by simp)))⟩
    ·
      go_wp2_with (first | (go_at_call 21; refine (HEA.out _ _ _ _ _ _ HT4.out HR4.out).mono ?_; rintro e w5 ⟨rfl, hb5⟩; have ht5 := HT4.out.below hb5) | (go_at_call 40; refine (HRE.out _ _ _ _ ht5).mono ?_; rintro e w6 ⟨v6, rfl, hown6, hb6⟩; obtain ⟨A6, c6, rfl, _, hr6⟩ := ownsRow_form hown6; have ht6 := ht5.below hb6) | (go_at_call 41; refine (HNO.out _ _ _ _ ht6).mono ?_; rintro e w7 ⟨rfl, hb7⟩; have HB7 := Lib.hid (below_trans2 (below_trans2 hb5 hb6) hb7); have HR7 := Lib.hid (hr6.below hb7); clear hb5 hb6 hb7 ht5 ht6 hr6 hown6) | (go_at_call 18; refine (haw _).mono ?_; rintro e w9 ⟨rfl, hb9⟩; have HB9 := Lib.hid hb9; have q0 := (hb9.cell (p := ⟨w7.heap.size, 0, none⟩) (by simp)).trans (cell_of_blk (heap_alloc_new w7 _) 0); have q1 := (hb9.cell (p := ⟨w7.heap.size, 1, none⟩) (by simp)).trans (cell_of_blk (heap_alloc_new w7 _) 1); have q2 := (hb9.cell (p := ⟨w7.heap.size, 2, none⟩) (by simp)).trans (cell_of_blk (heap_alloc_new w7 _) 2); clear hb9; simp at q0 q1 q2))
      go_ret
      exact ⟨rfl, below_trans2 (below_trans2 HB4.out HB7.out) (((Below.refl _ _).alloc (Nat.le_refl _) _).trans (HB9.out.mono (by simp)))⟩
  | true =>
    have hi2 : 0 ≤ i ∧ i < ns.length := by have := HIN.out; simpa using this
    obtain ⟨k, rfl⟩ : ∃ k : Nat, i = k := ⟨i.toNat, by omega⟩
    have hk : k < ns.length := by omega
    have hx := HNV.out
    simp only [if_true, Int.toNat_natCast] at hx
    have hrl := HRV.out
    simp only [if_true, Int.toNat_natCast] at hrl
    subst hrl
    have hy := HEV.out
    simp only [Bool.true_and, Int.toNat_natCast] at hy
    have hi0 : ¬ (k : Int) < 0 := by omega
    have hi1 : ¬ (ns.length : Int) ≤ k := by omega
    have HX := Lib.hid hx
    have HY := Lib.hid hy
    clear HNV HRV HEV HIN hi2 hx hy
    have hmost := HG.out.most
    go_upto_region 9 with (first | (go_at_call 21; refine (HEA.out _ _ _ _ _ _ HT4.out HR4.out).mono ?_; rintro e w5 ⟨rfl, hb5⟩; have ht5 := HT4.out.below hb5) | (go_at_call 40; refine (HRE.out _ _ _ _ ht5).mono ?_; rintro e w6 ⟨v6, rfl, hown6, hb6⟩; obtain ⟨A6, c6, rfl, _, hr6⟩ := ownsRow_form hown6; have ht6 := ht5.below hb6) | (go_at_call 41; refine (HNO.out _ _ _ _ ht6).mono ?_; rintro e w7 ⟨rfl, hb7⟩; have HB7 := Lib.hid (below_trans2 (below_trans2 hb5 hb6) hb7); have HR7 := Lib.hid (hr6.below hb7); clear hb5 hb6 hb7 ht5 ht6 hr6 hown6))
    obtain ⟨W8, hW8⟩ : ∃ W, W = w7.alloc (.cells #[.int .i64 xk, .int .i64 xa, .int .i64 xb] 33) := ⟨_, rfl⟩
    rw [← hW8]
    have hbk8 : W8.heap[w7.heap.size]? = some (.cells #[.int .i64 xk, .int .i64 xa, .int .i64 xb] 33 (0, 0)) := by rw [hW8]; exact heap_alloc_new w7 _
    have hb78 : Below w7.heap.size w7 W8 := by rw [hW8]; exact (Below.refl _ _).alloc (Nat.le_refl _) _
    have hb48 : Below w4.heap.size w4 W8 := below_trans2 HB7.out hb78
    have HB8 := Lib.hid (below_trans2 HB4.out hb48)
    have hr8 := HR5.out.below hb48
    obtain ⟨b5, o5, rfl, x0, x1, x2, hb5⟩ := hr8.nd3 k hk rfl
    rw [HX.out.symm] at x0 x1 x2
    simp only at x0 x1 x2
    have hrv : ∀ W', Below W8.heap.size W8 W' → Calls Try.prog 42 #[.slice (some ⟨b5, o5, none⟩) ns.length c5, .int .i64 (k : Int), .slice A2 n2 c2] W' fun e w' => e = .returned (.bool y) ∧ Below W'.heap.size W' w' := fun W' hW' => by
      have := reval_any ns k vals (some ⟨b5, o5, none⟩) A2 c5 n2 c2 W' HG.out hk (hr8.below hW') hl2 ((HV4.out.below hb48).below hW')
      rw [HY.out] at this
      exact this
    have hcs : ∀ W', Below W8.heap.size W8 W' → (W'.cell? ⟨w7.heap.size, 0, none⟩ = some (.int .i64 xk) ∧ W'.cell? ⟨w7.heap.size, 1, none⟩ = some (.int .i64 xa) ∧ W'.cell? ⟨w7.heap.size, 2, none⟩ = some (.int .i64 xb) ∧ W'.cell? ⟨b5, o5 + k * 3, none⟩ = some (.int .i64 xk) ∧ W'.cell? ⟨b5, o5 + k * 3 + 1, none⟩ = some (.int .i64 xa) ∧ W'.cell? ⟨b5, o5 + k * 3 + 2, none⟩ = some (.int .i64 xb)) := fun W' hW' =>
      ⟨(hW'.cell (p := ⟨w7.heap.size, 0, none⟩) (lt_of_blk hbk8)).trans (cell_of_blk hbk8 0), (hW'.cell (p := ⟨w7.heap.size, 1, none⟩) (lt_of_blk hbk8)).trans (cell_of_blk hbk8 1), (hW'.cell (p := ⟨w7.heap.size, 2, none⟩) (lt_of_blk hbk8)).trans (cell_of_blk hbk8 2),
        (hW'.cell (p := ⟨b5, o5 + k * 3, none⟩) hb5).trans x0, (hW'.cell (p := ⟨b5, o5 + k * 3 + 1, none⟩) hb5).trans x1, (hW'.cell (p := ⟨b5, o5 + k * 3 + 2, none⟩) hb5).trans x2⟩
    have HRV := Lib.hid hrv
    have HCS := Lib.hid hcs
    have HR8 := Lib.hid hr8
    have HQ8 := Lib.hid (HR7.out.below hb78)
    clear hrv hcs hr8 x0 x1 x2 hb48 hb78 hbk8 hW8 HV4 HR5 HR4 HT4
    go_cut [115] (fun s wx => s = .bool false ∧ Below W8.heap.size W8 wx)
    case first =>
      go_region_held3 (fun W' => W'.cell? ⟨w7.heap.size, 0, none⟩ = some (.int .i64 xk) ∧ W'.cell? ⟨w7.heap.size, 1, none⟩ = some (.int .i64 xa) ∧ W'.cell? ⟨w7.heap.size, 2, none⟩ = some (.int .i64 xb) ∧ W'.cell? ⟨b5, o5 + k * 3, none⟩ = some (.int .i64 xk) ∧ W'.cell? ⟨b5, o5 + k * 3 + 1, none⟩ = some (.int .i64 xa) ∧ W'.cell? ⟨b5, o5 + k * 3 + 2, none⟩ = some (.int .i64 xb)) (first | exact HCS.out _ hb12 | exact HCS.out _ hb10 | exact HCS.out _ (below_drew (Below.refl _ _)) | exact HCS.out _ (Below.refl _ _)) (first | (go_at_call 18; refine (haw _).mono ?_; rintro e w10 ⟨rfl, hb9⟩; have hb10 : Below W8.heap.size W8 w10 := below_drew' hb9; clear hb9) | (go_at_call 42; refine (HRV.out _ hb10).mono ?_; rintro e w12 ⟨rfl, hb11⟩; have hb12 := below_trans2 hb10 hb11; clear hb11))
      all_goals (go_wp2_with fail; go_meet; exact ⟨rfl, hb12⟩)
    case rest =>
    obtain ⟨rfl, hb9⟩ := hcut
    obtain ⟨w9, rfl⟩ : ∃ x, x = wc := ⟨_, rfl⟩
    have HB9 := Lib.hid (below_trans2 HB8.out hb9)
    clear HEA HRE HNO HRV HCS HB8 HB7 HR7 HB4 HX HY
    have hlen := needN_length ns k
    generalize hfin : needN ns k = fin at *
    have HF := Lib.hid hfin
    clear hfin
    go_wp2_with (at_make; refine make1 w9.heap.size w9 w9 rfl _ _ 37 rfl 4 i0 (.bool false) 1 Try.underlying37 hinf hz0 hz1 hz2 rfl (by decide) .i64 .i64 ((k : Int) + 1) ((k : Int) + 1) (k + 1) rfl rfl (by omega) (by omega) (by omega) _ rfl (Nat.le_refl _) (Below.refl _ _) ?_)
    intro w10 hown10 hb10 _
    have hblk := full_blk hown10
    rw [boolRow_zero] at hblk
    have s2 : RSt w9.heap.size w9 w10 (List.replicate (k + 1) false) k := ⟨hblk, hb10, by simp⟩
    obtain ⟨z0, z1⟩ := s2.cell k (by omega)
    have hw10 : w9.heap.size < w10.heap.size := s2.lt
    have hi2 : (k : Int) < (k : Int) + 1 := by omega
    have S3 := Lib.hid (s2.set (Nat.le_refl _) k true)
    clear hown10 hb10 hblk s2
    go_wp2_with fail
    have s4 : RStW w9.heap.size w9 ((w10.setCell ⟨w9.heap.size, k, none⟩ (.bool true)).alloc (.cells #[] 3)) (need0 k) k (.slice (some ⟨w10.heap.size, 0, none⟩) 0 0) 0 [] := ⟨S3.out.alloc (Nat.le_refl _) _, by
      have := own_empty (w10.setCell ⟨w9.heap.size, k, none⟩ (.bool true)) 3 w9.heap.size (by simp [World.setCell]; omega)
      simpa [World.setCell] using this⟩
    clear z0 z1
    go_loopw [17] (fun x wr => ∃ (q : Nat) (r : List Bool), q ≤ k + 1 ∧ x = .int .i64 ((q : Int) - 1) ∧ RStW w9.heap.size w9 wr r k (.slice (some ⟨w10.heap.size, 0, none⟩) 0 0) 0 [] ∧ downNeed ns q r = fin) (fun x _ => (intOf x + 1).toNat)
    case atStart => exact ⟨k + 1, _, Nat.le_refl _, by simp, s4, HF.out⟩
    case round =>
      obtain ⟨q, r, hq, rfl, hst, hd⟩ := hrel
      clear s4 S3
      by_cases hq0 : 0 < q
      · obtain ⟨m, rfl⟩ : ∃ m, q = m + 1 := ⟨q - 1, by omega⟩
        have em : ((m + 1 : Nat) : Int) - 1 = m := by omega
        rw [em]
        clear em hq0
        simp only [downNeed] at hd
        have hpt := HG.out.lt m (by omega)
        have hpr := HG.out.pr m (by omega)
        obtain ⟨x0, x1, x2⟩ := (HR8.out.below (below_trans2 hb9 hst.st.bel)).nd3' m (by omega) rfl
        obtain ⟨z0, z1⟩ := hst.st.cell m (by omega)
        have hs1 := hst.st.lt
        have hml : m < ns.length := by omega
        have hmi' : (m : Int) < (k : Int) + 1 := by omega
        have HST := Lib.hid hst
        clear hst
        have hb4 := HG.out.b4 m (by omega)
        unfold stepNeed at hd
        obtain ⟨X, hXM⟩ : ∃ X, nd ns m = X := ⟨_, rfl⟩
        rw [hXM] at x0 x1 x2 hpt hpr hd hb4
        obtain ⟨xk, xa, xb⟩ := X
        have HXM := Lib.hid hXM
        clear hXM
        simp only at x0 x1 x2 hpt hd hpr hb4
        obtain ⟨_, p4, p5⟩ := hpt
        generalize hy : r.getD m false = y at *
        cases y with
        | false =>
          rw [if_neg (by simp)] at hd
          have HD := Lib.hid hd
          clear hd p4 p5 hy hpr hb4
          go_wp2_with fail
          go_roundw
          case rel => exact ⟨m, _, by omega, by go_num, HST.out, HD.out⟩
          case measure => simp [intOf] <;> omega
        | true =>
          by_cases h4 : 4 ≤ xk
          · rw [if_pos ⟨rfl, h4⟩] at hd
            by_cases k4 : xk = 4
            · subst k4
              rw [if_pos rfl] at hd
              have hb0 := hb4 rfl
              subst hb0
              obtain ⟨ha, hak⟩ := p4 rfl
              obtain ⟨a, rfl⟩ : ∃ a : Nat, xa = a := ⟨xa.toNat, by omega⟩
              rw [Int.toNat_natCast] at hd
              obtain ⟨za, zf⟩ := HST.out.st.cell a (by omega)
              have HD := Lib.hid hd
              have hai : (a : Int) < (k : Int) + 1 := by omega
              clear hd p4 p5 hy hpr ha hb4
              go_upto_region 19 with fail
              obtain ⟨W1, hW1⟩ : ∃ W, W = wr.setCell ⟨w9.heap.size, a, none⟩ (.bool true) := ⟨_, rfl⟩
              rw [← hW1]
              have hst1 : RStW w9.heap.size w9 W1 (r.set a true) k (.slice (some ⟨w10.heap.size, 0, none⟩) 0 0) 0 [] := by rw [hW1]; exact HST.out.set (Nat.le_refl _) a true
              have b81 := below_trans2 hb9 hst1.st.bel
              obtain ⟨x0, x1, x2⟩ := (HR8.out.below b81).nd3' m (by omega) rfl
              rw [HXM.out] at x0 x1 x2
              simp only at x0 x1 x2
              obtain ⟨zb, zg⟩ := hst1.st.cell 0 (by omega)
              have hs2 := hst1.st.lt
              have HST1 := Lib.hid hst1
              clear hst1 b81 hW1
              have hsame := fun z h => set_same (r.set a true) 0 z h (by have := HST1.out.st.len; omega)
              generalize hz : (r.set a true).getD 0 false = z at *
              have hS := (HST1.out.set (Nat.le_refl _) 0 z).drew
              rw [hsame z rfl] at hS
              have HS := Lib.hid hS
              clear hsame hz hS
              cases z
              · go_region
                go_wp2_with fail
                first | exact ⟨⟨m, _, by omega, rfl, HS.out, HD.out⟩, by simp [intOf] <;> omega⟩ | (go_roundw; case rel => exact ⟨m, _, by omega, by go_num, HS.out, HD.out⟩; case measure => simp [intOf] <;> omega)
              · go_region
                go_wp2_with fail
                first | exact ⟨⟨m, _, by omega, rfl, HS.out, HD.out⟩, by simp [intOf] <;> omega⟩ | (go_roundw; case rel => exact ⟨m, _, by omega, by go_num, HS.out, HD.out⟩; case measure => simp [intOf] <;> omega)
            · rw [if_neg k4] at hd
              obtain ⟨ha, hab, hbm⟩ := hpr h4 k4
              obtain ⟨a, rfl⟩ : ∃ a : Nat, xa = a := ⟨xa.toNat, by omega⟩
              obtain ⟨b, rfl⟩ : ∃ b : Nat, xb = b := ⟨xb.toNat, by omega⟩
              rw [Int.toNat_natCast, Int.toNat_natCast] at hd
              obtain ⟨za, zf⟩ := HST.out.st.cell a (by omega)
              have HD := Lib.hid hd
              have hai : (a : Int) < (k : Int) + 1 := by omega
              have hbi : (b : Int) < (k : Int) + 1 := by omega
              have h5 : (4 : Int) < xk := by omega
              clear hd p4 p5 hy hpr ha hb4
              go_upto_region 19 with fail
              obtain ⟨W1, hW1⟩ : ∃ W, W = wr.setCell ⟨w9.heap.size, a, none⟩ (.bool true) := ⟨_, rfl⟩
              rw [← hW1]
              have hst1 : RStW w9.heap.size w9 W1 (r.set a true) k (.slice (some ⟨w10.heap.size, 0, none⟩) 0 0) 0 [] := by rw [hW1]; exact HST.out.set (Nat.le_refl _) a true
              have b81 := below_trans2 hb9 hst1.st.bel
              obtain ⟨x0, x1, x2⟩ := (HR8.out.below b81).nd3' m (by omega) rfl
              rw [HXM.out] at x0 x1 x2
              simp only at x0 x1 x2
              obtain ⟨zb, zg⟩ := hst1.st.cell b (by omega)
              have hs2 := hst1.st.lt
              have HST1 := Lib.hid hst1
              clear hst1 b81 hW1
              have hS := (HST1.out.set (Nat.le_refl _) b true).drew
              have HS := Lib.hid hS
              clear hS
              generalize (r.set a true).getD b false = z at *
              cases z
              · go_region
                go_wp2_with fail
                first | exact ⟨⟨m, _, by omega, rfl, HS.out, HD.out⟩, by simp [intOf] <;> omega⟩ | (go_roundw; case rel => exact ⟨m, _, by omega, by go_num, HS.out, HD.out⟩; case measure => simp [intOf] <;> omega)
              · go_region
                go_wp2_with fail
                first | exact ⟨⟨m, _, by omega, rfl, HS.out, HD.out⟩, by simp [intOf] <;> omega⟩ | (go_roundw; case rel => exact ⟨m, _, by omega, by go_num, HS.out, HD.out⟩; case measure => simp [intOf] <;> omega)
          · rw [if_neg (by simp [h4])] at hd
            have HD := Lib.hid hd
            clear hd p4 p5 hy hpr hb4
            go_wp2_with fail
            go_roundw
            case rel => exact ⟨m, _, by omega, by go_num, HST.out, HD.out⟩
            case measure => simp [intOf] <;> omega
      · obtain rfl : q = 0 := by omega
        have e0 : ((0 : Nat) : Int) - 1 = -1 := rfl
        rw [e0]
        clear e0
        simp only [downNeed] at hd
        subst hd
        have HST := Lib.hid hst
        clear hst
        go_wp2_with fail
        go_loopw [16, 18] (fun o x wr2 => ∃ (q : Nat) (v : Value), q ≤ k + 1 ∧ x = .int .i64 q ∧ v = o ∧ RStW w9.heap.size w9 wr2 r k v (reachL r q).length (natL (reachL r q))) (fun _ x _ => k + 1 - (intOf x).toNat)
        case atStart => exact ⟨0, _, Nat.zero_le _, rfl, rfl, HST.out⟩
        case round =>
          obtain ⟨q, v, hq, rfl, rfl, hst⟩ := hrel
          by_cases hlt2 : q < k + 1
          · obtain ⟨z0, z1⟩ := hst.st.cell q hlt2
            have hs2 := hst.st.lt
            have hlt' : (q : Int) ≤ (k : Int) := by omega
            have hlt'' : (q : Int) < (k : Int) + 1 := by omega
            have hrl := reachL_length r q
            have HY1 := Lib.hid (fun h => reachL_yes (r := r) (m := q) h)
            have HY0 := Lib.hid (fun h => reachL_no (r := r) (m := q) h)
            have HS2 := Lib.hid hst
            clear hst
            generalize hz : r.getD q false = z at *
            cases z with
            | false =>
              have HQ := Lib.hid (HY0.out rfl)
              clear hz HY0 HY1
              go_wp2_with fail
              go_roundw
              case rel => exact ⟨q + 1, _, by omega, by go_num, rfl, by rw [HQ.out]; exact HS2.out⟩
              case measure => simp [intOf]; omega
            | true =>
              have HQ := Lib.hid (HY1.out rfl)
              clear hz HY0 HY1
              go_wp2_with (at_builtin; refine app1 w9.heap.size w9 wr (.int .i64 (q : Int)) 3 rfl _ _ 24 rfl j0 (.int .i64 0) 8 Try.underlying24 hjnf hy0 hy1 hy2 rfl (by decide) _ (reachL r q).length _ rfl (Nat.le_refl _) HS2.out.own HS2.out.st.bel rfl rfl (by omega) ?_)
              intro v4 w4 hown4 hb4 hg4
              have hst4 : RSt w9.heap.size w9 w4 r k := ⟨(hg4.block _ HS2.out.st.lt (fun e => own_type HS2.out.own HS2.out.st.blk (by decide) e.symm)).trans HS2.out.st.blk, hb4, HS2.out.st.len⟩
              go_wp2_with fail
              go_roundw
              case rel => exact ⟨q + 1, _, by omega, by go_num, rfl, by rw [HQ.out]; exact ⟨hst4, by simpa [natL] using hown4⟩⟩
              case measure => simp [intOf]; omega
          · obtain rfl : q = k + 1 := by omega
            have hlt' : ¬ (k : Int) + 1 ≤ (k : Int) := by omega
            have hrl := reachL_length r (k + 1)
            have hq6 := HQ8.out.below (below_trans2 hb9 hst.st.bel)
            obtain ⟨A7, c7, rfl, _, hq7⟩ := ownsRow_form hst.own
            have HBE := Lib.hid (below_trans2 HB9.out hst.st.bel)
            have hne := natL_length (reachL r (k + 1))
            have hval : ∀ q, q < (reachL r (k + 1)).length → ∃ z : Nat, (natL (reachL r (k + 1)))[q]? = some (.int .i64 (z : Int)) := fun q hq => by
              refine ⟨(reachL r (k + 1))[q], ?_⟩
              rw [natL, List.getElem?_map, List.getElem?_eq_getElem hq]
              rfl
            generalize natL (reachL r (k + 1)) = xs at *
            generalize (reachL r (k + 1)).length = L at *
            have H6 := Lib.hid hq6
            have H7 := Lib.hid hq7
            have HVAL := Lib.hid hval
            clear hst hq6 hq7 hne hval
            go_wp2_with fail
            go_loopw [190] (fun x wr2 => ∃ (q t : Nat), q ≤ L ∧ x = .int .i64 q ∧ wr2 = wr.drewN t) (fun x _ => L - (intOf x).toNat)
            case atStart => exact ⟨0, 0, Nat.zero_le _, rfl, rfl⟩
            case round =>
              obtain ⟨q, t, hq, rfl, rfl⟩ := hrel
              by_cases hlt3 : q < L
              · obtain ⟨z, hz⟩ := HVAL.out q hlt3
                obtain ⟨b6, o6, u6, rfl, hu6, hc6⟩ := H6.out.at_ hlt3
                obtain ⟨b7, o7, u7, rfl, hu7, hc7⟩ := H7.out.at_ hlt3
                rw [hz] at hu6 hu7
                injection hu6 with hu6
                injection hu7 with hu7
                subst hu6
                subst hu7
                clear hz
                go_wp2_with fail
                go_quiet (fail)
                go_wp2_with fail
                go_roundw
                case rel => exact ⟨q + 1, t + nq, by omega, by go_num, by first | rfl | rw [World.drewN_drewN]⟩
                case measure => simp [intOf]; omega
              · go_wp2_with fail
                go_ret
                exact ⟨rfl, below_drewN HBE.out t⟩

theorem evals_law {w : World} (A : Option Addr) (n c : Nat) (os : List Nd) (hl : os.length = n) (hnc : n ≤ c) (hc : c ≤ maxLen) (hr : Rd w 3 A n (ndCells os)) (hwf : ∀ o ∈ os, o.wf) (i : Int) (hi : (Lit.int .i64 i).wf = true)
    (A2 : Option Addr) (n2 c2 : Nat) (vals : List Bool) (hl2 : vals.length = n2) (hnc2 : n2 ≤ c2) (hc2 : c2 * 1 ≤ 140737488351232) (hr2 : Rd w 1 A2 n2 (vals.map Value.bool)) :
    Calls Try.prog 11 #[.slice A n c, .int .i64 i, .slice A2 n2 c2] w fun e w' => e = .returned (.bool true) ∧ Below w.heap.size w w' :=
  evals_walk os A n c i vals A2 n2 c2 w hl hnc hc hr hl2 hnc2 hc2 hr2
end Go.Proofs.Ytdpnififbpoagaa
