/- attestlaw10.InternMeans: the walk. -/
import Derived.Test.YtdpnififbpoagaaNodeMeans
namespace Go.Proofs.Ytdpnififbpoagaa
open Go.RowKit
set_option linter.unusedVariables false
set_option linter.unusedSimpArgs false

theorem app_below {w w' : World} {o : Obj} {b : Nat} (hb : w.heap.size ≤ b) (hg : (w.drew.alloc o).grownBy w' (some b)) : Below w.heap.size w w' := by
  have h1 : Fr (fun _ => False) w (w.drew.alloc o) := (Fr.refl _ w).drew.alloc o
  have h2 : Fr (fun x => x = b) (w.drew.alloc o) w' := Fr.of_grown hg (fun k hk => .inl (by injection hk with hk; exact hk.symm))
  exact (h1.trans h2 (fun x hx => .inr (by omega))).below (Nat.le_refl _) (fun b h => h.elim)
/-- how the world stands between two statements. -/
structure MSt (w W : World) (tb mb : Nat) (sv : Value) (ns : List Nd) (vals : List Bool) (A2 : Option Addr) (n2 : Nat) (k a b : Int) : Prop where
  tab : TabB (w.heap.size + 1) W tb mb sv ns
  rd : Rd W 1 A2 n2 (boolL vals)
  blk : W.heap[w.heap.size]? = some (.cells #[.int .i64 k, .int .i64 a, .int .i64 b] 36 (0, 0))
  bel : Below w.heap.size w W
section
variable {w W W' : World} {tb mb n2 : Nat} {sv : Value} {ns ns' : List Nd} {vals : List Bool} {A2 : Option Addr} {k a b : Int}
theorem MSt.below (h : MSt w W tb mb sv ns vals A2 n2 k a b) (hb : Below W.heap.size W W') : MSt w W' tb mb sv ns vals A2 n2 k a b :=
  ⟨h.tab.below hb, h.rd.below hb, (hb.block _ (lt_of_blk h.blk)).trans h.blk, h.bel.trans (hb.mono h.bel.size)⟩
theorem MSt.cells (h : MSt w W tb mb sv ns vals A2 n2 k a b) : W.cell? ⟨w.heap.size, 0, none⟩ = some (.int .i64 k) ∧ W.cell? ⟨w.heap.size, 1, none⟩ = some (.int .i64 a) ∧ W.cell? ⟨w.heap.size, 2, none⟩ = some (.int .i64 b) :=
  ⟨(cell_of_blk h.blk 0).trans rfl, (cell_of_blk h.blk 1).trans rfl, (cell_of_blk h.blk 2).trans rfl⟩
theorem MSt.after (h : MSt w W tb mb sv ns vals A2 n2 k a b) (hr : Rd w 1 A2 n2 (boolL vals)) (ha : After W W' tb mb sv ns') : ∃ sv', MSt w W' tb mb sv' ns' vals A2 n2 k a b := by
  have hs : w.heap.size + 1 ≤ W.heap.size := lt_of_blk h.blk
  obtain ⟨sv', ht, hf, hb⟩ := h.tab.after hs ha
  refine ⟨sv', ht, hr.below (h.bel.trans (hb.mono (Nat.le_succ _))), (hb.block _ (Nat.lt_succ_self _)).trans h.blk, h.bel.trans (hb.mono (Nat.le_succ _))⟩
end
set_option maxRecDepth 100000 in
set_option maxHeartbeats 8000000 in
theorem means_walk (os : List Nd) (A : Option Addr) (n c : Nat) (op : Nd) (vals : List Bool) (A2 : Option Addr) (n2 c2 : Nat) (w : World) (hl : os.length = n) (hnc : n ≤ c) (hc : c ≤ maxLen) (hr : Rd w 3 A n (ndCells os))
    (hl2 : vals.length = n2) (hnc2 : n2 ≤ c2) (hc2 : c2 * 1 ≤ 140737488351232) (hr2 : Rd w 1 A2 n2 (boolL vals)) :
    Calls Try.prog 5 #[.slice A n c, .agg #[.int .i64 op.k, .int .i64 op.a, .int .i64 op.b], .slice A2 n2 c2] w fun e w' => e = .returned (.bool true) ∧ Below w.heap.size w w' := by
  obtain ⟨i0, hinf, hz0, hz1, hz2⟩ := info_parts info_bool
  have hf := few_any os A n c _ hl hnc hc (hr.alloc (.cells #[.int .i64 op.k, .int .i64 op.a, .int .i64 op.b] 36))
  have haw := awake_any
  have hgood := good_play (os.take 200)
  have hlt : (os.take 200).length ≤ 200 := by rw [List.length_take]; omega
  have hlp := len_playN (os.take 200)
  have htb := fun A' c' W hr' => table_any (os.take 200) A' (os.take 200).length c' W rfl (by omega) hr'
  generalize hns : (playN (os.take 200)).1 = ns at *
  generalize os.take 200 = os2 at *
  clear hns
  obtain ⟨xa, ina, xb, inb, ok, got, j, hpre, hok, hj⟩ := means_pre ns vals op hgood (by omega)
  have hdo := fun tb mb sv W (hW : Tab W tb mb sv ns) => do_any tb mb sv ns op W hW hgood.neg
  simp only [ansV, ← hok, ← hj] at hdo
  clear hok hj
  generalize (doN ns op).1 = ns' at *
  obtain ⟨ok', oa, ob⟩ := op
  simp only at hf hpre hdo ⊢
  have hea := fun tb mb sv W A' c' (hW : Tab W tb mb sv ns) hr' => eval_any tb mb sv ns oa vals A' n2 c' W hW hgood hl2 hr'
  have heb := fun tb mb sv W A' c' (hW : Tab W tb mb sv ns) hr' => eval_any tb mb sv ns ob vals A' n2 c' W hW hgood hl2 hr'
  have hee := fun tb mb sv W A' c' (hW : Tab W tb mb sv ns') hr' => eval_in tb mb sv ns' j vals A' n2 c' W hW hpre.good' hpre.jlt hl2 hr'
  have qa := hpre.ea
  have qb := hpre.ia
  have qc := hpre.eb
  have qd := hpre.ib
  simp only at qa qb qc qd
  rw [← qa, ← qb] at hea
  rw [← qc, ← qd] at heb
  rw [← hpre.geq] at hee
  clear qa qb qc qd
  have HPRE := Lib.hid hpre
  have HEA := Lib.hid hea
  have HEB := Lib.hid heb
  have HEE := Lib.hid hee
  have HDO := Lib.hid hdo
  have HTB := Lib.hid htb
  have HR2 := Lib.hid hr2
  clear hpre hea heb hee hdo htb hr2 hr hgood
  go_enter Try.func5, Try.ntmps5
  go_wp2_with (first | (go_at_call 15; refine hf.mono ?_; clear hf; rintro e w1 ⟨v1, rfl, hown1, hb1⟩; obtain ⟨A1, c1, rfl, _, hr1⟩ := ownsRow_form hown1) | (go_at_call 19; refine (HTB.out _ _ _ hr1).mono ?_; rintro e w2 ⟨mb, sv, rfl, ht2, hb2⟩) | (go_at_call 20; refine (len_old _ _ _ _ _ ht2.tab).mono ?_; rintro e w3 ⟨rfl, hw⟩; obtain rfl := hw.symm))
  have hs1 : w.heap.size + 1 ≤ w1.heap.size := by have := hb1.size; simpa using this
  have hb12 : Below (w.heap.size + 1) (w.alloc (.cells #[.int .i64 ok', .int .i64 oa, .int .i64 ob] 36)) w2 := by
    have := hb1.trans (hb2.mono hb1.size)
    simpa using this
  have mw2 : MSt w w2 w1.heap.size mb sv ns vals A2 n2 ok' oa ob := ⟨⟨ht2.tab, fun b hb => Nat.le_trans hs1 (ht2.le b hb)⟩, (HR2.out.alloc _).below (by simpa using hb12), (hb12.block _ (Nat.lt_succ_self _)).trans (heap_alloc_new w _), ((Below.refl _ w).alloc (Nat.le_refl _) _).trans (hb12.mono (Nat.le_succ _))⟩
  have Mw2 := Lib.hid mw2
  clear mw2 hb12 hb1 hb2 ht2 hown1 hr1 hw hs1 HTB
  go_upto_region 3 with fail
  obtain ⟨o0, o1, o2⟩ := Mw2.out.cells
  have hltw2 : w.heap.size < w2.heap.size := lt_of_blk Mw2.out.blk
  go_cut [9, 10] (fun x y wx => x = .bool xa ∧ y = .bool ina ∧ Below w2.heap.size w2 wx)
  case first =>
    go_region_law (first | (refine stepRS w2.heap.size (w2.drew.alloc (.cells #[] 4)) 1 4 rfl _ _ 37 rfl i0 _ 1 Try.underlying37 hinf hz0 hz1 hz2 rfl (by decide) (by decide) (.slice (some ⟨w2.heap.size, 0, none⟩) 0 0) 0 [] (by simp [Act.eval, Act.put]) (by simp) (own_emptyS _ _ _ _ (Nat.le_refl _)) A2 n2 c2 _ (by simp [Act.eval, Act.put]) ((Mw2.out.rd.drew).alloc _) (boolL_one vals) (by omega) ?_; intro v3 w3 hown3 hg3; have hb3 := app_below (Nat.le_refl _) hg3; obtain ⟨A3, c3, rfl, _, hr3⟩ := ownsRow_form hown3; simp only [List.nil_append, Nat.zero_add] at hr3; obtain ⟨o0', o1', o2'⟩ := (Mw2.out.below hb3).cells) | (go_simp; go_at_call 21; refine (HEA.out _ _ _ _ _ _ (Mw2.out.below hb3).tab.tab hr3).mono ?_; rintro e w4 ⟨rfl, hb4⟩; have hb5 := hb3.trans (hb4.mono hb3.size)))
    all_goals (go_wp2_with fail; go_meet; exact ⟨rfl, rfl, hb5⟩)
  case rest =>
  obtain ⟨rfl, rfl, hb3⟩ := hcut
  obtain ⟨w5, rfl⟩ : ∃ x, x = wc := ⟨_, rfl⟩
  have Mw5 := Lib.hid (Mw2.out.below hb3)
  clear hb3 o0 o1 o2 hltw2 Mw2
  go_upto_region 4 with fail
  obtain ⟨o0, o1, o2⟩ := Mw5.out.cells
  have hltw5 : w.heap.size < w5.heap.size := lt_of_blk Mw5.out.blk
  go_cut [11, 12] (fun x y wx => x = .bool xb ∧ y = .bool inb ∧ Below w5.heap.size w5 wx)
  case first =>
    go_region_law (first | (refine stepRS w5.heap.size (w5.drew.alloc (.cells #[] 4)) 1 4 rfl _ _ 37 rfl i0 _ 1 Try.underlying37 hinf hz0 hz1 hz2 rfl (by decide) (by decide) (.slice (some ⟨w5.heap.size, 0, none⟩) 0 0) 0 [] (by simp [Act.eval, Act.put]) (by simp) (own_emptyS _ _ _ _ (Nat.le_refl _)) A2 n2 c2 _ (by simp [Act.eval, Act.put]) ((Mw5.out.rd.drew).alloc _) (boolL_one vals) (by omega) ?_; intro v3 w3 hown3 hg3; have hb3 := app_below (Nat.le_refl _) hg3; obtain ⟨A3, c3, rfl, _, hr3⟩ := ownsRow_form hown3; simp only [List.nil_append, Nat.zero_add] at hr3; obtain ⟨o0', o1', o2'⟩ := (Mw5.out.below hb3).cells) | (go_simp; go_at_call 21; refine (HEB.out _ _ _ _ _ _ (Mw5.out.below hb3).tab.tab hr3).mono ?_; rintro e w4 ⟨rfl, hb4⟩; have hb5 := hb3.trans (hb4.mono hb3.size)))
    all_goals (go_wp2_with fail; go_meet; exact ⟨rfl, rfl, hb5⟩)
  case rest =>
  obtain ⟨rfl, rfl, hb4⟩ := hcut
  obtain ⟨w6, rfl⟩ : ∃ x, x = wc := ⟨_, rfl⟩
  have Mw6 := Lib.hid (Mw5.out.below hb4)
  clear hb4 o0 o1 o2 hltw5 Mw5
  obtain ⟨o0, o1, o2⟩ := Mw6.out.cells
  go_wp2_with (first | (go_at_call 22; refine (HDO.out _ _ _ _ Mw6.out.tab.tab).mono ?_; rintro e w7 ⟨rfl, haft⟩; obtain ⟨sv7, m7⟩ := Mw6.out.after HR2.out haft; have Mw7 := Lib.hid m7; clear haft m7 o0 o1 o2) | (at_builtin; refine appR w7.heap.size w7 (w7.alloc (.cells #[] 4)) 4 rfl _ _ 37 rfl i0 _ 1 Try.underlying37 hinf hz0 hz1 hz2 rfl (by decide) _ 0 [] rfl (Nat.le_refl _) (own_empty _ _ _ (Nat.le_refl _)) ((Below.refl _ _).alloc (Nat.le_refl _) _) A2 n2 c2 _ rfl (Mw7.out.rd.alloc _) (boolL_one vals) (by omega) ?_))
  intro v8 w8 hown8 hb8 _
  obtain ⟨A8, c8, rfl, _, hr8⟩ := ownsRow_form hown8
  have hr8' : Rd w8 1 A8 n2 (boolL vals) := by simpa using hr8
  have HR8 := Lib.hid hr8'
  have Mw8 := Lib.hid (Mw7.out.below hb8)
  clear hb8 hown8 Mw7 hr8 hr8'
  have hlen : ok = false → (ns'.length : Int) = (ns.length : Int) := fun h => by rw [(HPRE.out.none h).2]
  have hj0 : ok = false → j = 0 := fun h => (HPRE.out.none h).1
  go_wp2_with (first | (go_at_call 21; refine (HEE.out _ _ _ _ _ _ Mw8.out.tab.tab HR8.out).mono ?_; rintro e w9 ⟨rfl, hb9⟩; have Mw9 := Lib.hid (Mw8.out.below hb9); clear hb9))
  clear HR8 Mw8 HEE HEA HEB HDO
  have hpre := HPRE.out
  clear HPRE
  obtain ⟨o0, o1, o2⟩ := Mw9.out.cells
  by_cases k1 : ok' = 1
  · subst k1
    obtain ⟨e1, e2⟩ := hpre.k1
    clear hpre hlen hj0
    subst e1 e2
    go_wp2_with (first | (go_at_call 18; refine (haw _).mono ?_; rintro e w10 ⟨rfl, hb10⟩; have Mw10 := Lib.hid (Mw9.out.below hb10); obtain ⟨p0, p1, p2⟩ := Mw10.out.cells; clear hb10) | (go_at_call 20; refine (len_old _ _ _ _ _ Mw10.out.tab.tab).mono ?_; rintro e w11 ⟨rfl, hw⟩; obtain rfl := hw.symm))
    all_goals go_ret
    all_goals exact ⟨by first | rfl | simp, Mw10.out.bel⟩
  by_cases k2 : ok' = 2
  · subst k2
    obtain ⟨e1, e2⟩ := hpre.k2
    clear hpre hlen hj0
    subst e1 e2
    go_wp2_with (first | (go_at_call 18; refine (haw _).mono ?_; rintro e w10 ⟨rfl, hb10⟩; have Mw10 := Lib.hid (Mw9.out.below hb10); obtain ⟨p0, p1, p2⟩ := Mw10.out.cells; clear hb10) | (go_at_call 20; refine (len_old _ _ _ _ _ Mw10.out.tab.tab).mono ?_; rintro e w11 ⟨rfl, hw⟩; obtain rfl := hw.symm))
    all_goals go_ret
    all_goals exact ⟨by first | rfl | simp, Mw10.out.bel⟩
  by_cases k3 : ok' = 3
  · subst k3
    obtain ⟨e1, e2⟩ := hpre.k3
    clear hpre
    by_cases ha : 0 ≤ oa
    · rw [decide_eq_true ha] at e1
      replace e2 := e2 ha
      clear hlen hj0
      obtain ⟨m, rfl⟩ : ∃ m : Nat, oa = m := ⟨oa.toNat, by omega⟩
      rw [Int.toNat_natCast] at e2
      by_cases hm : m < n2
      · obtain ⟨b5, o5, u, rfl, hu, hc5⟩ := Mw9.out.rd.at_ hm
        have hb5 : b5 < w9.heap.size := World.block_lt_of_cell? _ _ hc5
        have hx : vals[m]? = some (vals.getD m false) := by rw [List.getD_eq_getElem?_getD, List.getElem?_eq_getElem (by omega)]; rfl
        simp only [boolL, List.getElem?_map, hx, Option.map_some, Option.some.injEq] at hu
        subst hu
        rw [← e2] at hc5
        clear hx
        subst e1
        have HC5 := Lib.hid hc5
        go_wp2_with (go_at_call 18; refine (haw _).mono ?_; rintro e w10 ⟨rfl, hb10⟩; have Mw10 := Lib.hid (Mw9.out.below hb10); obtain ⟨p0, p1, p2⟩ := Mw10.out.cells; have hc10 := (hb10.cell (p := ⟨b5, o5 + m, none⟩) hb5).trans HC5.out; clear hb10)
        go_ret
        exact ⟨rfl, Mw10.out.bel⟩
      · have e3 : vals.getD m false = false := by simp [List.getElem?_eq_none (show vals.length ≤ m by omega)]
        rw [e3] at e2
        have hm' : ¬ (m : Int) < n2 := by omega
        subst e1 e2
        clear e3
        go_wp2_with (first | (go_at_call 18; refine (haw _).mono ?_; rintro e w10 ⟨rfl, hb10⟩; have Mw10 := Lib.hid (Mw9.out.below hb10); obtain ⟨p0, p1, p2⟩ := Mw10.out.cells; clear hb10) | (go_at_call 20; refine (len_old _ _ _ _ _ Mw10.out.tab.tab).mono ?_; rintro e w11 ⟨rfl, hw⟩; obtain rfl := hw.symm))
        all_goals go_ret
        all_goals exact ⟨by first | rfl | simp, Mw10.out.bel⟩
    · rw [decide_eq_false ha] at e1
      have hl' := hlen e1
      have hj' := hj0 e1
      clear e2 hlen hj0
      subst e1 hj'
      go_wp2_with (first | (go_at_call 18; refine (haw _).mono ?_; rintro e w10 ⟨rfl, hb10⟩; have Mw10 := Lib.hid (Mw9.out.below hb10); obtain ⟨p0, p1, p2⟩ := Mw10.out.cells; clear hb10) | (go_at_call 20; refine (len_old _ _ _ _ _ Mw10.out.tab.tab).mono ?_; rintro e w11 ⟨rfl, hw⟩; obtain rfl := hw.symm))
      all_goals go_ret
      all_goals exact ⟨by first | rfl | simp, Mw10.out.bel⟩
  by_cases k4 : ok' = 4
  · subst k4
    obtain ⟨e1, e2⟩ := hpre.k4
    clear hpre
    cases ok
    · have hl' := hlen rfl
      have hj' := hj0 rfl
      clear hlen hj0 e2
      subst e1 hj'
      go_wp2_with (first | (go_at_call 18; refine (haw _).mono ?_; rintro e w10 ⟨rfl, hb10⟩; have Mw10 := Lib.hid (Mw9.out.below hb10); obtain ⟨p0, p1, p2⟩ := Mw10.out.cells; clear hb10) | (go_at_call 20; refine (len_old _ _ _ _ _ Mw10.out.tab.tab).mono ?_; rintro e w11 ⟨rfl, hw⟩; obtain rfl := hw.symm))
      all_goals go_ret
      all_goals exact ⟨by first | rfl | simp, Mw10.out.bel⟩
    · replace e2 := e2 rfl
      clear hlen hj0
      subst e1 e2
      go_wp2_with (first | (go_at_call 18; refine (haw _).mono ?_; rintro e w10 ⟨rfl, hb10⟩; have Mw10 := Lib.hid (Mw9.out.below hb10); obtain ⟨p0, p1, p2⟩ := Mw10.out.cells; clear hb10) | (go_at_call 20; refine (len_old _ _ _ _ _ Mw10.out.tab.tab).mono ?_; rintro e w11 ⟨rfl, hw⟩; obtain rfl := hw.symm))
      all_goals go_ret
      all_goals exact ⟨by first | rfl | simp, Mw10.out.bel⟩
  by_cases k5 : ok' = 5
  · subst k5
    obtain ⟨e1, e2⟩ := hpre.k5
    clear hpre
    cases ina
    · rw [Bool.false_and] at e1
      have hl' := hlen e1
      have hj' := hj0 e1
      clear hlen hj0 e2
      subst e1 hj'
      go_wp2_with (first | (go_at_call 18; refine (haw _).mono ?_; rintro e w10 ⟨rfl, hb10⟩; have Mw10 := Lib.hid (Mw9.out.below hb10); obtain ⟨p0, p1, p2⟩ := Mw10.out.cells; clear hb10) | (go_at_call 20; refine (len_old _ _ _ _ _ Mw10.out.tab.tab).mono ?_; rintro e w11 ⟨rfl, hw⟩; obtain rfl := hw.symm))
      all_goals go_ret
      all_goals exact ⟨by first | rfl | simp, Mw10.out.bel⟩
    · rw [Bool.true_and] at e1
      cases ok
      · have hl' := hlen rfl
        have hj' := hj0 rfl
        clear hlen hj0 e2
        subst e1 hj'
        go_wp2_with (first | (go_at_call 18; refine (haw _).mono ?_; rintro e w10 ⟨rfl, hb10⟩; have Mw10 := Lib.hid (Mw9.out.below hb10); obtain ⟨p0, p1, p2⟩ := Mw10.out.cells; clear hb10) | (go_at_call 20; refine (len_old _ _ _ _ _ Mw10.out.tab.tab).mono ?_; rintro e w11 ⟨rfl, hw⟩; obtain rfl := hw.symm))
        all_goals go_ret
        all_goals exact ⟨by first | rfl | simp, Mw10.out.bel⟩
      · replace e2 := e2 rfl
        clear hlen hj0
        subst e1 e2
        go_wp2_with (first | (go_at_call 18; refine (haw _).mono ?_; rintro e w10 ⟨rfl, hb10⟩; have Mw10 := Lib.hid (Mw9.out.below hb10); obtain ⟨p0, p1, p2⟩ := Mw10.out.cells; clear hb10) | (go_at_call 20; refine (len_old _ _ _ _ _ Mw10.out.tab.tab).mono ?_; rintro e w11 ⟨rfl, hw⟩; obtain rfl := hw.symm))
        all_goals go_ret
        all_goals exact ⟨by first | rfl | simp, Mw10.out.bel⟩
  by_cases k6 : ok' = 6
  · subst k6
    obtain ⟨e1, e2⟩ := hpre.k6
    clear hpre
    cases ina
    · rw [Bool.false_and] at e1
      have hl' := hlen e1
      have hj' := hj0 e1
      clear hlen hj0 e2
      subst e1 hj'
      go_wp2_with (first | (go_at_call 18; refine (haw _).mono ?_; rintro e w10 ⟨rfl, hb10⟩; have Mw10 := Lib.hid (Mw9.out.below hb10); obtain ⟨p0, p1, p2⟩ := Mw10.out.cells; clear hb10) | (go_at_call 20; refine (len_old _ _ _ _ _ Mw10.out.tab.tab).mono ?_; rintro e w11 ⟨rfl, hw⟩; obtain rfl := hw.symm))
      all_goals go_ret
      all_goals exact ⟨by first | rfl | simp, Mw10.out.bel⟩
    · rw [Bool.true_and] at e1
      cases ok
      · have hl' := hlen rfl
        have hj' := hj0 rfl
        clear hlen hj0 e2
        subst e1 hj'
        go_wp2_with (first | (go_at_call 18; refine (haw _).mono ?_; rintro e w10 ⟨rfl, hb10⟩; have Mw10 := Lib.hid (Mw9.out.below hb10); obtain ⟨p0, p1, p2⟩ := Mw10.out.cells; clear hb10) | (go_at_call 20; refine (len_old _ _ _ _ _ Mw10.out.tab.tab).mono ?_; rintro e w11 ⟨rfl, hw⟩; obtain rfl := hw.symm))
        all_goals go_ret
        all_goals exact ⟨by first | rfl | simp, Mw10.out.bel⟩
      · replace e2 := e2 rfl
        clear hlen hj0
        subst e1 e2
        go_wp2_with (first | (go_at_call 18; refine (haw _).mono ?_; rintro e w10 ⟨rfl, hb10⟩; have Mw10 := Lib.hid (Mw9.out.below hb10); obtain ⟨p0, p1, p2⟩ := Mw10.out.cells; clear hb10) | (go_at_call 20; refine (len_old _ _ _ _ _ Mw10.out.tab.tab).mono ?_; rintro e w11 ⟨rfl, hw⟩; obtain rfl := hw.symm))
        all_goals go_ret
        all_goals exact ⟨by first | rfl | simp, Mw10.out.bel⟩
  · have e1 := hpre.k7 k1 k2 k3 k4 k5 k6
    clear hpre
    have hl' := hlen e1
    have hj' := hj0 e1
    clear hlen hj0
    subst e1 hj'
    go_wp2_with (first | (go_at_call 18; refine (haw _).mono ?_; rintro e w10 ⟨rfl, hb10⟩; have Mw10 := Lib.hid (Mw9.out.below hb10); obtain ⟨p0, p1, p2⟩ := Mw10.out.cells; clear hb10) | (go_at_call 20; refine (len_old _ _ _ _ _ Mw10.out.tab.tab).mono ?_; rintro e w11 ⟨rfl, hw⟩; obtain rfl := hw.symm))
    all_goals go_ret
    all_goals exact ⟨by first | rfl | simp, Mw10.out.bel⟩

theorem means_law {w : World} (A : Option Addr) (n c : Nat) (os : List Nd) (hl : os.length = n) (hnc : n ≤ c) (hc : c ≤ maxLen) (hr : Rd w 3 A n (ndCells os)) (hwf : ∀ o ∈ os, o.wf) (op : Nd) (hop : op.wf)
    (A2 : Option Addr) (n2 c2 : Nat) (vals : List Bool) (hl2 : vals.length = n2) (hnc2 : n2 ≤ c2) (hc2 : c2 * 1 ≤ 140737488351232) (hr2 : Rd w 1 A2 n2 (vals.map Value.bool)) :
    Calls Try.prog 5 #[.slice A n c, .agg #[.int .i64 op.k, .int .i64 op.a, .int .i64 op.b], .slice A2 n2 c2] w fun e w' => e = .returned (.bool true) ∧ Below w.heap.size w w' :=
  means_walk os A n c op vals A2 n2 c2 w hl hnc hc hr hl2 hnc2 hc2 hr2
end Go.Proofs.Ytdpnififbpoagaa
