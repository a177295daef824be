/- Contract of attesttop.AttestConstraints. -/
import Derived.Test.YtlbbbafehhdpnaaGreatDoorLawAt
import Derived.Test.YtlbbbafehhdpnaaGreatDoorAtomM
namespace Go.Proofs.YtlbbbafehhdpnaaGreatDoor
open Go.RowKit
set_option linter.unusedVariables false
set_option linter.unusedSimpArgs false

/-- places in the list of raw numbers. -/
theorem Rd.atI {w : World} {A : Option Addr} {n : Nat} {ol : List Int} (h : Rd w 1 A n (ints ol)) {i : Nat} (hi : i < n) : ∃ (g off : Nat) (o : Int), A = some ⟨g, off, none⟩ ∧ ol[i]? = some o ∧ w.cell? ⟨g, off + i, none⟩ = some (.int .i64 o) := by
  obtain ⟨g, off, u, e, hu, hc⟩ := h.at_ hi
  unfold ints at hu
  rw [List.getElem?_map] at hu
  cases ho : ol[i]? with
  | none => rw [ho] at hu; cases hu
  | some o =>
    rw [ho] at hu
    simp at hu
    subst hu
    exact ⟨g, off, o, e, rfl, hc⟩
theorem any_next {l : List AB} {i : Nat} {a : AB} (h : l[i]? = some a) (f : AB → Bool) : (l.take (i + 1)).any f = ((l.take i).any f || f a) := by
  rw [List.take_add_one, h]
  simp
/-- what the calls of the law's rounds answer. -/
def HoldsA (w : World) (A3 : Option Addr) (n3 c3 : Nat) (P : Int → Rat) (a : AB) : Prop :=
  Calls Tryz.prog 11 #[.agg #[.slice a.A a.n a.c, .bool (ratNeg a.q), .slice a.b.A a.b.n a.b.c, .slice a.b.A2 a.b.n2 a.b.c2, .int .i64 a.op], .slice A3 n3 c3] w fun r w' => r = .returned (.tuple #[.bool (a.says P), .int .i64 0]) ∧ Below w.heap.size w w'
theorem holdsA {w : World} {A3 : Option Addr} {n3 c3 : Nat} {ps : List (RB × Rat)} {a : AB} {m k : Nat} (h : AOk w m k a) (hm : m ≤ 30) (hk : k ≤ 20000) (hp : PtsAt w A3 n3 c3 ps 8) : HoldsA w A3 n3 c3 (ptOf ps) a :=
  holds_any a.A a.n a.c a.b a.l a.q a.op k A3 n3 c3 ps 8 w h.tms h.cst h.le hp (by have := h.few; omega) (by omega) h.lo h.hi
theorem AOk.up {w : World} {m k m2 k2 : Nat} {a : AB} (h : AOk w m k a) (hm : m ≤ m2) (hk : k ≤ k2) : AOk w m2 k2 a := ⟨h.tms.up hk, h.cst, h.le.up hk, Nat.le_trans h.few hm, h.lo, h.hi⟩
theorem sum_most {x y : Rat} (hx : x ≤ 0) (hy : y ≤ 0) : x + y ≤ 0 := by grind
theorem cells5 {w W : World} {g o : Nat} {a b c d e : Value} (hW : Below w.heap.size w W) (h0 : w.cell? ⟨g, o, none⟩ = some a) (h1 : w.cell? ⟨g, o + 1, none⟩ = some b) (h2 : w.cell? ⟨g, o + 2, none⟩ = some c) (h3 : w.cell? ⟨g, o + 3, none⟩ = some d) (h4 : w.cell? ⟨g, o + 4, none⟩ = some e) : W.cell? ⟨g, o, none⟩ = some a ∧ W.cell? ⟨g, o + 1, none⟩ = some b ∧ W.cell? ⟨g, o + 2, none⟩ = some c ∧ W.cell? ⟨g, o + 3, none⟩ = some d ∧ W.cell? ⟨g, o + 4, none⟩ = some e := by
  have hg := World.block_lt_of_cell? w _ h0
  exact ⟨(hW.cell (p := ⟨g, o, none⟩) hg).trans h0, (hW.cell (p := ⟨g, o + 1, none⟩) hg).trans h1, (hW.cell (p := ⟨g, o + 2, none⟩) hg).trans h2, (hW.cell (p := ⟨g, o + 3, none⟩) hg).trans h3, (hW.cell (p := ⟨g, o + 4, none⟩) hg).trans h4⟩
set_option maxRecDepth 100000 in
set_option maxHeartbeats 8000000 in
theorem constraints_any (A : Option Addr) (n c : Nat) (l : List XB) (A2 : Option Addr) (n2 c2 : Nat) (l2 : List NB) (w : World) (h : XsAt w A n c l) (h2 : NsAt w A2 n2 c2 l2) (ht : Pow10 w) :
    Calls Tryz.prog 3 #[.slice A n c, .slice A2 n2 c2] w fun r w' => r = .returned (.bool true) ∧ Below w.heap.size w w' := by
  have hat := atoms_any A n c l w h
  have hpt := fun W (hb : Below w.heap.size w W) => point_any A2 n2 c2 l2 W (h2.below hb)
  have HPT := Lib.hid hpt
  have HT := Lib.hid ht
  clear hpt h h2 ht
  go_enter Tryz.func3, Tryz.ntmps3
  go_upto_region 2 with (go_at_call 4; refine hat.mono ?_; clear hat; rintro e w1 ⟨A1, n1, c1, la, rfl, hla, hn1, hb1⟩)
  have hpt := HPT.out w1 hb1
  go_upto_region 3 with (go_at_call 5; refine hpt.mono ?_; clear hpt; rintro e w2 ⟨A3, n3, c3, ps, rfl, hps, hn3, hb2⟩)
  have hb12 := hb1.trans (hb2.mono hb1.size)
  have hpl := aplaces_any A1 n1 c1 la 12 8 w2 (hla.below hb2) (by decide) (by decide) (by omega) (HT.out.below hb12)
  have HLA := Lib.hid (hla.below hb2)
  have HB2 := Lib.hid hb12
  have HPS := Lib.hid hps
  clear hla hb1 hb2 hb12 hps HPT HT
  go_upto_region 4 with (go_at_call 6; refine hpl.mono ?_; clear hpl; rintro e w3 ⟨v3, ol, rfl, hown3, hol, hoo, hb3⟩)
  obtain ⟨A5, c5, rfl, hc5, hrd5⟩ := ownsRow_form hown3
  have HLA3 := Lib.hid (HLA.out.below hb3)
  have HPS3 := Lib.hid (HPS.out.below hb3)
  have HRD3 := Lib.hid hrd5
  have HOO := Lib.hid hoo
  have HB3 := Lib.hid (HB2.out.trans (hb3.mono HB2.out.size))
  have hva := var_any 0 w3 (by decide) (by decide)
  clear hown3 hol hoo hb3 hrd5 HB2 HLA HPS
  go_upto_region 5 with (first | (go_at_call 8; refine hva.mono ?_; clear hva; rintro e w4 ⟨A4, n4, c4, b4, l4, q4, rfl, ht4, hr4, hq4, hn4, he4, hb4⟩; have hip := int_p1 w4; unfold RB.val at hip; have HV4 := Lib.hid (And.intro ht4 (And.intro hr4 (And.intro hq4 (And.intro hn4 he4)))); clear ht4 hr4 hq4 hn4 he4) | (go_at_call 10; refine hip.mono ?_; clear hip; rintro e w5 ⟨b5, rfl, hr5, hb5⟩; have hof := of_any b5 1 1 w5 hr5 (p1_le 1 (Nat.le_refl _)); clear hr5) | (go_at_call 9; refine hof.mono ?_; clear hof; rintro e w6 ⟨A6, n6, c6, b6, l6, q6, rfl, ht6, hr6, hq6, hn6, he6, hb6⟩; have hb46 := hb5.trans (hb6.mono hb5.size); have hsu := subS A4 n4 c4 b4 l4 q4 A6 n6 c6 b6 l6 q6 1 w6 (HV4.out.1.below hb46) (HV4.out.2.1.below hb46) HV4.out.2.2.1 ht6 hr6 hq6 (by have := HV4.out.2.2.2.1; omega) (by decide); clear ht6 hr6 hq6) | (go_at_call 7; refine hsu.mono ?_; clear hsu; rintro e w7 ⟨A7, n7, c7, b7, l7, q7, rfl, ht7, hr7, hq7, hn7, he7, hb7⟩))
  have hx8 := heap_alloc_new w7 (.cells #[.slice A7 n7 c7, .bool (ratNeg q7), .slice b7.A b7.n b7.c, .slice b7.A2 b7.n2 b7.c2, .int .i64 3] 41)
  have zw8 : (w7.alloc (.cells #[.slice A7 n7 c7, .bool (ratNeg q7), .slice b7.A b7.n b7.c, .slice b7.A2 b7.n2 b7.c2, .int .i64 3] 41)).heap.size = w7.heap.size + 1 := by simp
  have aw8 := (Below.refl w7.heap.size w7).alloc (Nat.le_refl _) (.cells #[.slice A7 n7 c7, .bool (ratNeg q7), .slice b7.A b7.n b7.c, .slice b7.A2 b7.n2 b7.c2, .int .i64 3] 41)
  obtain ⟨w8, ew8⟩ : ∃ x, x = w7.alloc (.cells #[.slice A7 n7 c7, .bool (ratNeg q7), .slice b7.A b7.n b7.c, .slice b7.A2 b7.n2 b7.c2, .int .i64 3] 41) := ⟨_, rfl⟩
  rw [← ew8] at hx8 zw8 aw8 ⊢
  clear ew8
  obtain ⟨g8, hg8⟩ : ∃ x, x = w7.heap.size := ⟨_, rfl⟩
  rw [← hg8] at hx8 ⊢
  have hb38 : Below w3.heap.size w3 w8 := by
    have h1 := hb4.trans (hb46.mono hb4.size)
    have h2 := h1.trans (hb7.mono h1.size)
    exact h2.trans (aw8.mono h2.size)
  have hho : ∀ W, Below w8.heap.size w8 W → ∀ (b : RB) (g : Nat), RatAt W b 1 → Rd W 3 (some ⟨g, 0, none⟩) 1 (ratL b 1) → Calls Tryz.prog 11 #[.agg #[.slice A7 n7 c7, .bool (ratNeg q7), .slice b7.A b7.n b7.c, .slice b7.A2 b7.n2 b7.c2, .int .i64 3], .slice (some ⟨g, 0, none⟩) 1 1] W fun r w' => r = .returned (.tuple #[.bool true, .int .i64 0]) ∧ Below W.heap.size W w' := fun W hb b g hr hrd => by
    have hp : PtsAt W (some ⟨g, 0, none⟩) 1 1 [(b, 1)] 1 := ⟨by simpa [ratsL] using hrd, rfl, Nat.le_refl _, fun p hp => by simp at hp; subst hp; exact ⟨hr, p1_le 1 (Nat.le_refl _)⟩⟩
    have hv : saysQ 3 (evE (ptOf [(b, 1)]) l7 q7) = true := by
      rw [says_eq, he7, HV4.out.2.2.2.2, he6]
      have : ptOf [(b, (1 : Rat))] ((0 : Nat) : Int) = 1 := ptOf_in (l := [(b, 1)]) (i := 0) (p := (b, 1)) rfl
      rw [show (0 : Int) = ((0 : Nat) : Int) by rfl, this]
      apply decide_eq_true
      grind
    have := holds_any A7 n7 c7 b7 l7 q7 3 (31 * (31 * (1 + 2) + 1)) _ 1 1 [(b, 1)] 1 W ((ht7.below aw8).below hb) ((hr7.below aw8).below hb) hq7 hp (by have := HV4.out.2.2.2.1; omega) (by decide) (by decide) (by decide)
    rw [hv] at this
    exact this
  have hip := fun W => int_p1 W
  unfold RB.val at hip
  have hcs : ∀ W', Below w8.heap.size w8 W' → W'.cell? ⟨g8, 0, none⟩ = some (.slice A7 n7 c7) ∧ W'.cell? ⟨g8, 1, none⟩ = some (.bool (ratNeg q7)) ∧ W'.cell? ⟨g8, 2, none⟩ = some (.slice b7.A b7.n b7.c) ∧ W'.cell? ⟨g8, 3, none⟩ = some (.slice b7.A2 b7.n2 b7.c2) ∧ W'.cell? ⟨g8, 4, none⟩ = some (.int .i64 3) := fun W' hb => box5 (box_keep hx8 hb)
  have HHO := Lib.hid hho
  have HIP := Lib.hid hip
  have HCS := Lib.hid hcs
  have HB8 := Lib.hid (HB3.out.trans (hb38.mono HB3.out.size))
  have HLA8 := Lib.hid (HLA3.out.below hb38)
  have HPS8 := Lib.hid (HPS3.out.below hb38)
  have HRD8 := Lib.hid (HRD3.out.below hb38)
  clear hho hip hcs hx8 hb38 hb4 hb5 hb46 hb6 he6 he7 HV4 ht7 hr7 hq7 hn7 hb7 aw8 zw8 hg8 HLA3 HPS3 HRD3 HB3
  go_cut [9, 10] (fun x y wx => x = .bool true ∧ y = .int .i64 0 ∧ Below w8.heap.size w8 wx)
  case first =>
    as_aux_lemma =>
      go_region_held3 (fun W' => W'.cell? ⟨g8, 0, none⟩ = some (.slice A7 n7 c7) ∧ W'.cell? ⟨g8, 1, none⟩ = some (.bool (ratNeg q7)) ∧ W'.cell? ⟨g8, 2, none⟩ = some (.slice b7.A b7.n b7.c) ∧ W'.cell? ⟨g8, 3, none⟩ = some (.slice b7.A2 b7.n2 b7.c2) ∧ W'.cell? ⟨g8, 4, none⟩ = some (.int .i64 3)) ((refine HCS.out _ ?_; first | with_reducible exact k2 | with_reducible exact k1.alloc k1.size _ | with_reducible exact k1 | with_reducible exact below_drew2 (Below.refl _ _))) (first | (go_at_call 10; refine (HIP.out _).mono ?_; rintro e u1 ⟨b1, rfl, hr1, hb1⟩; have k1 : Below w8.heap.size w8 u1 := (below_drew2 (Below.refl _ _)).trans (hb1.mono (Nat.le_refl _)); have HR1 := Lib.hid hr1; clear hr1 hb1) | (go_at_call 11; refine (HHO.out _ (k1.alloc k1.size _) b1 _ (HR1.out.alloc _) (lit3_rd _ _ _)).mono ?_; rintro e u2 ⟨rfl, hb2⟩; have k2 : Below w8.heap.size w8 u2 := (k1.alloc k1.size _).trans (hb2.mono (k1.alloc k1.size _).size); clear hb2))
      all_goals
        go_wp2_with fail
        go_meet
        exact ⟨rfl, rfl, k2⟩
  case rest =>
    obtain ⟨rfl, rfl, hb9⟩ := hcut
    obtain ⟨w9, rfl⟩ : ∃ x, x = wc := ⟨_, rfl⟩
    have hB9 := HB8.out.trans (hb9.mono HB8.out.size)
    have hla9 := HLA8.out.below hb9
    have hps9 := HPS8.out.below hb9
    have hrd9 := HRD8.out.below hb9
    have hho : ∀ W, Below w9.heap.size w9 W → ∀ a, AOk W 24 20000 a → HoldsA W A3 n3 c3 (ptOf ps) a := fun W hb a ha => holdsA ha (by decide) (Nat.le_refl _) (hps9.below hb)
    generalize ptOf ps = P at *
    have HHO2 := Lib.hid hho
    have HLA9 := Lib.hid hla9
    have HRD9 := Lib.hid hrd9
    have HB9 := Lib.hid hB9
    clear hho hla9 hps9 hrd9 hB9 hb9 HB8 HLA8 HPS8 HRD8 HCS HIP HHO
    go_wp2_with fail
    go_loopw [67] (fun x wr => ∃ i : Nat, i ≤ n1 ∧ x = .int .i64 i ∧ Below w9.heap.size w9 wr) (fun x _ => n1 - (intOf x).toNat)
    case atStart => exact ⟨0, Nat.zero_le _, rfl, Below.refl _ _⟩
    case round =>
      obtain ⟨i, hi, rfl, hb10⟩ := hrel
      obtain ⟨w10, rfl⟩ : ∃ x, x = wr := ⟨_, rfl⟩
      have HB10 := Lib.hid hb10
      by_cases hlt : i < n1
      · obtain ⟨g1, o1, a, ea, hti, y0, y1, y2, y3, y4⟩ := (HLA9.out.below hb10).rd.at5 HLA9.out.len hlt
        subst ea
        obtain ⟨g5, o5, o, e5, hto, z5⟩ := (HRD9.out.below hb10).atI hlt
        subst e5
        obtain ⟨ho0, hoi, a', b, hta, htb, hsay⟩ := HOO.out i o hto
        obtain ⟨j, rfl⟩ : ∃ j : Nat, o = (j : Int) := ⟨o.toNat, by omega⟩
        rw [hti] at hta
        injection hta with hta
        subst hta
        rw [Int.toNat_natCast] at htb
        have hj : j < n1 := by omega
        obtain ⟨g2, o2, b', eb, htj, x0, x1, x2, x3, x4⟩ := (HLA9.out.below hb10).rd.at5 HLA9.out.len hj
        rw [htb] at htj
        injection htj with htj
        subst htj
        injection eb with eb
        injection eb with eb1 eb2
        subst eb1; subst eb2
        have oka := (HLA9.out.below hb10).each a (List.mem_of_getElem? hti)
        have okb := (HLA9.out.below hb10).each b (List.mem_of_getElem? htb)
        obtain ⟨hv, ehv⟩ : ∃ hv, a.says P = hv := ⟨_, rfl⟩
        have e2 : b.says P = hv := (hsay P).trans ehv
        have h13 : ∀ W, Below w10.heap.size w10 W → Calls Tryz.prog 11 #[.agg #[.slice a.A a.n a.c, .bool (ratNeg a.q), .slice a.b.A a.b.n a.b.c, .slice a.b.A2 a.b.n2 a.b.c2, .int .i64 a.op], .slice A3 n3 c3] W fun r w' => r = .returned (.tuple #[.bool hv, .int .i64 0]) ∧ Below W.heap.size W w' := fun W hW => by
          have := HHO2.out W (HB10.out.trans (hW.mono HB10.out.size)) a ((oka.below hW).up (by decide) (by decide))
          unfold HoldsA at this
          rwa [ehv] at this
        have h14 : ∀ W, Below w10.heap.size w10 W → Calls Tryz.prog 11 #[.agg #[.slice b.A b.n b.c, .bool (ratNeg b.q), .slice b.b.A b.b.n b.b.c, .slice b.b.A2 b.b.n2 b.b.c2, .int .i64 b.op], .slice A3 n3 c3] W fun r w' => r = .returned (.tuple #[.bool hv, .int .i64 0]) ∧ Below W.heap.size W w' := fun W hW => by
          have := HHO2.out W (HB10.out.trans (hW.mono HB10.out.size)) b ((okb.below hW).up (by decide) (by decide))
          unfold HoldsA at this
          rwa [e2] at this
        have hcb : ∀ W, Below w10.heap.size w10 W → _ := fun W hW => cells5 hW x0 x1 x2 x3 x4
        have H13 := Lib.hid h13
        have H14 := Lib.hid h14
        have HCB := Lib.hid hcb
        have HOA := Lib.hid oka
        have EHV := Lib.hid ehv
        have HTI := Lib.hid hti
        have q1 : ¬ ((j : Int) < 0) := by omega
        have q2 : ¬ ((j : Int) > (i : Int)) := by omega
        have q3 : ¬ ((i : Int) < (j : Int)) := by omega
        have b0 : (0 : Int) ≤ (i : Int) := by omega
        have b1 : (0 : Int) ≤ (j : Int) := by omega
        have hg5 := World.block_lt_of_cell? w10 _ z5
        clear h13 h14 hcb okb e2 hsay htb hti hto ho0 ehv hb10 x0 x1 x2 x3 x4
        go_upto_region 11 with fail
        have hx11 := heap_alloc_new w10 (.cells #[.slice a.A a.n a.c, .bool (ratNeg a.q), .slice a.b.A a.b.n a.b.c, .slice a.b.A2 a.b.n2 a.b.c2, .int .i64 a.op] 41)
        have zw11 : (w10.alloc (.cells #[.slice a.A a.n a.c, .bool (ratNeg a.q), .slice a.b.A a.b.n a.b.c, .slice a.b.A2 a.b.n2 a.b.c2, .int .i64 a.op] 41)).heap.size = w10.heap.size + 1 := by simp
        have aw11 := (Below.refl w10.heap.size w10).alloc (Nat.le_refl _) (.cells #[.slice a.A a.n a.c, .bool (ratNeg a.q), .slice a.b.A a.b.n a.b.c, .slice a.b.A2 a.b.n2 a.b.c2, .int .i64 a.op] 41)
        obtain ⟨w11, ew11⟩ : ∃ x, x = w10.alloc (.cells #[.slice a.A a.n a.c, .bool (ratNeg a.q), .slice a.b.A a.b.n a.b.c, .slice a.b.A2 a.b.n2 a.b.c2, .int .i64 a.op] 41) := ⟨_, rfl⟩
        rw [← ew11] at hx11 zw11 aw11 ⊢
        clear ew11
        obtain ⟨ga, hga⟩ : ∃ x, x = w10.heap.size := ⟨_, rfl⟩
        rw [← hga] at hx11 ⊢
        obtain ⟨v0, v1, v2, v3, v4⟩ := box5 hx11
        have z5' := (aw11.cell (p := ⟨g5, o5 + i, none⟩) hg5).trans z5
        have HX11 := Lib.hid hx11
        have HA11 := Lib.hid aw11
        have h13 := H13.out w11 aw11
        clear y0 y1 y2 y3 y4 z5 hx11 aw11 zw11 hga
        go_upto_region 14 with (go_at_call 11; refine h13.mono ?_; clear h13; rintro e w13 ⟨rfl, hb13⟩)
        have b13 := HA11.out.trans (hb13.mono HA11.out.size)
        have hx13 := box_keep HX11.out hb13
        have z13 := (hb13.cell (p := ⟨g5, o5 + i, none⟩) (World.block_lt_of_cell? _ _ z5')).trans z5'
        obtain ⟨x0, x1, x2, x3, x4⟩ := HCB.out w13 b13
        have h14 := H14.out w13 b13
        have HB13 := Lib.hid b13
        have HX13 := Lib.hid hx13
        clear b13 hx13 hb13 z5' v0 v1 v2 v3 v4
        go_upto_region 17 with (go_at_call 11; refine h14.mono ?_; clear h14; rintro e w14 ⟨rfl, hb14⟩)
        have b14 := HB13.out.trans (hb14.mono HB13.out.size)
        have hx14 := box_keep HX13.out hb14
        obtain ⟨v0, v1, v2, v3, v4⟩ := box5 hx14
        have oka14 := HOA.out.below b14
        have hno := not_any a.A a.n a.c a.b a.l a.q a.op 8 w14 oka14.tms oka14.cst oka14.le (by have := oka14.few; omega) (by decide) oka14.lo oka14.hi
        have HB14 := Lib.hid b14
        have HX14 := Lib.hid hx14
        clear b14 hx14 hb14 oka14 x0 x1 x2 x3 x4 z13 HX13 HB13
        go_upto_region 18 with (go_at_call 12; refine hno.mono ?_; clear hno; rintro e w17 ⟨A6, n6, c6, l6, rfl, hl6, hn6, hb17, hsay6⟩)
        have b17 := HB14.out.trans (hb17.mono HB14.out.size)
        have hx17 := box_keep HX14.out hb17
        have hs6 : (l6.any fun u => u.says P) = !hv := by
          have := hsay6 P
          rw [this]
          have := EHV.out
          unfold AB.says at this
          rw [this]
        have HS6 := Lib.hid hs6
        have HL6 := Lib.hid hl6
        have HB17 := Lib.hid b17
        have HX17 := Lib.hid hx17
        clear b17 hx17 hb17 hs6 hsay6 hl6 v0 v1 v2 v3 v4 HX14 HB14
        go_wp2_with fail
        go_loopw [19, 113] (fun v x wr => ∃ j : Nat, j ≤ n6 ∧ v = .bool ((l6.take j).any fun u => u.says P) ∧ x = .int .i64 j ∧ Below w17.heap.size w17 wr) (fun _ x _ => n6 - (intOf x).toNat)
        case atStart => exact ⟨0, Nat.zero_le _, rfl, rfl, Below.refl _ _⟩
        case round =>
          obtain ⟨k, hk, rfl, rfl, hb18⟩ := hrel
          obtain ⟨w18, rfl⟩ : ∃ x, x = wr := ⟨_, rfl⟩
          have HB18 := Lib.hid hb18
          by_cases hkt : k < n6
          · obtain ⟨g6, o6, u, eu, htu, y0, y1, y2, y3, y4⟩ := (HL6.out.below hb18).rd.at5 HL6.out.len hkt
            subst eu
            have oku := (HL6.out.below hb18).each u (List.mem_of_getElem? htu)
            have hnx := any_next htu (fun u => u.says P)
            obtain ⟨S, hS⟩ : ∃ S, S = (l6.take k).any fun u => u.says P := ⟨_, rfl⟩
            obtain ⟨T, hT⟩ : ∃ T, T = u.says P := ⟨_, rfl⟩
            have h22 : ∀ W, Below w18.heap.size w18 W → Calls Tryz.prog 11 #[.agg #[.slice u.A u.n u.c, .bool (ratNeg u.q), .slice u.b.A u.b.n u.b.c, .slice u.b.A2 u.b.n2 u.b.c2, .int .i64 u.op], .slice A3 n3 c3] W fun r w' => r = .returned (.tuple #[.bool T, .int .i64 0]) ∧ Below W.heap.size W w' := fun W hW => by
              have := HHO2.out W (HB10.out.trans ((HB17.out.trans ((HB18.out.trans (hW.mono HB18.out.size)).mono HB17.out.size)).mono HB10.out.size)) u ((oku.below hW).up (by have := HOA.out.few; omega) (by decide))
              unfold HoldsA at this
              rwa [← hT] at this
            rw [← hS, ← hT] at hnx
            rw [← hS]
            have H22 := Lib.hid h22
            have HNX := Lib.hid hnx
            clear h22 hnx hS hT oku htu hb18
            go_upto_region 22 with fail
            have hx19 := heap_alloc_new w18 (.cells #[.slice u.A u.n u.c, .bool (ratNeg u.q), .slice u.b.A u.b.n u.b.c, .slice u.b.A2 u.b.n2 u.b.c2, .int .i64 u.op] 41)
            have zw19 : (w18.alloc (.cells #[.slice u.A u.n u.c, .bool (ratNeg u.q), .slice u.b.A u.b.n u.b.c, .slice u.b.A2 u.b.n2 u.b.c2, .int .i64 u.op] 41)).heap.size = w18.heap.size + 1 := by simp
            have aw19 := (Below.refl w18.heap.size w18).alloc (Nat.le_refl _) (.cells #[.slice u.A u.n u.c, .bool (ratNeg u.q), .slice u.b.A u.b.n u.b.c, .slice u.b.A2 u.b.n2 u.b.c2, .int .i64 u.op] 41)
            obtain ⟨w19, ew19⟩ : ∃ x, x = w18.alloc (.cells #[.slice u.A u.n u.c, .bool (ratNeg u.q), .slice u.b.A u.b.n u.b.c, .slice u.b.A2 u.b.n2 u.b.c2, .int .i64 u.op] 41) := ⟨_, rfl⟩
            rw [← ew19] at hx19 zw19 aw19 ⊢
            clear ew19
            obtain ⟨v0, v1, v2, v3, v4⟩ := box5 hx19
            have h22 := H22.out w19 aw19
            have HA19 := Lib.hid aw19
            clear hx19 aw19 zw19 y0 y1 y2 y3 y4 H22
            go_upto_region 23 with (go_at_call 11; refine h22.mono ?_; clear h22; rintro e w20 ⟨rfl, hb20⟩)
            have HB20 := Lib.hid (HB18.out.trans ((HA19.out.trans (hb20.mono HA19.out.size)).mono HB18.out.size))
            clear hb20 v0 v1 v2 v3 v4
            cases S
            · go_wp2_with fail
              go_roundw
              case rel => exact ⟨k + 1, by omega, by rw [HNX.out]; rfl, by go_num, HB20.out⟩
              case measure => simp [intOf]; omega
            · go_wp2_with fail
              go_roundw
              case rel => exact ⟨k + 1, by omega, by rw [HNX.out]; rfl, by go_num, HB20.out⟩
              case measure => simp [intOf]; omega
          · obtain rfl : k = n6 := by omega
            rw [List.take_of_length_le (by rw [HL6.out.len]; exact Nat.le_refl _), HS6.out]
            have b18 := HB17.out.trans (hb18.mono HB17.out.size)
            have hx18 := box_keep HX17.out hb18
            obtain ⟨v0, v1, v2, v3, v4⟩ := box5 hx18
            have oka18 := HOA.out.below b18
            have hca := acanon_any a.A a.n a.c a.b a.l a.q a.op 8 w18 oka18.tms oka18.cst oka18.le (by have := oka18.few; omega) (by decide) oka18.lo oka18.hi
            have HB18' := Lib.hid b18
            have HX18 := Lib.hid hx18
            clear b18 hx18 hb18 oka18 HX17 HL6 HS6 hkt
            go_upto_region 26 with (go_at_call 13; refine hca.mono ?_; clear hca; rintro e w21 ⟨A7, n7, c7, b7, l7, q7, o7, t7, rfl, hb21, hcase⟩)
            have hx22 := heap_alloc_new w21 (.cells #[.slice A7 n7 c7, .bool (ratNeg q7), .slice b7.A b7.n b7.c, .slice b7.A2 b7.n2 b7.c2, .int .i64 o7] 41)
            have zw22 : (w21.alloc (.cells #[.slice A7 n7 c7, .bool (ratNeg q7), .slice b7.A b7.n b7.c, .slice b7.A2 b7.n2 b7.c2, .int .i64 o7] 41)).heap.size = w21.heap.size + 1 := by simp
            have aw22 := (Below.refl w21.heap.size w21).alloc (Nat.le_refl _) (.cells #[.slice A7 n7 c7, .bool (ratNeg q7), .slice b7.A b7.n b7.c, .slice b7.A2 b7.n2 b7.c2, .int .i64 o7] 41)
            obtain ⟨w22, ew22⟩ : ∃ x, x = w21.alloc (.cells #[.slice A7 n7 c7, .bool (ratNeg q7), .slice b7.A b7.n b7.c, .slice b7.A2 b7.n2 b7.c2, .int .i64 o7] 41) := ⟨_, rfl⟩
            rw [← ew22] at hx22 zw22 aw22 ⊢
            clear ew22
            obtain ⟨g7, hg7⟩ : ∃ x, x = w21.heap.size := ⟨_, rfl⟩
            rw [← hg7] at hx22 ⊢
            have b22 := HB18'.out.trans ((hb21.trans (aw22.mono hb21.size)).mono HB18'.out.size)
            have hx12 := box_keep HX18.out (hb21.trans (aw22.mono hb21.size))
            have HB22 := Lib.hid b22
            have HX12 := Lib.hid hx12
            clear b22 hx12 hb21 zw22 hg7 HB18' HX18 v0 v1 v2 v3 v4
            rcases hcase with ⟨rfl, rfl, ht7, hr7, hq7, hn7, hv7⟩ | ⟨ht7, hv7⟩
            · obtain ⟨v0, v1, v2, v3, v4⟩ := box5 hx22
              have okc : AOk w22 24 20000 ⟨A7, n7, c7, b7, l7, q7, a.op⟩ := ⟨(ht7.below aw22).up (by decide), hr7.below aw22, hq7.up (by decide), by have := HOA.out.few; show n7 ≤ 24; omega, HOA.out.lo, HOA.out.hi⟩
              have h28 := HHO2.out w22 (HB10.out.trans (HB22.out.mono HB10.out.size)) _ okc
              unfold HoldsA at h28
              rw [show AB.says ⟨A7, n7, c7, b7, l7, q7, a.op⟩ P = hv from (hv7 P).trans EHV.out] at h28
              clear okc ht7 hr7 hq7 hn7 hv7 hx22 aw22
              go_upto_region 29 with (go_at_call 11; refine h28.mono ?_; clear h28; rintro e w23 ⟨rfl, hb23⟩)
              have b23 := HB22.out.trans (hb23.mono HB22.out.size)
              have hx23 := box_keep HX12.out hb23
              have HB23 := Lib.hid b23
              have HX23 := Lib.hid hx23
              clear b23 hx23 hb23 HB22 HX12 v0 v1 v2 v3 v4
              have hcap := HLA9.out.cap
              have hic : (i : Int) ≤ (c1 : Int) := by omega
              have hc0 : ¬ (c1 = 0) := by omega
              have hc1 : ¬ ((c1 : Int) = 0) := by omega
              go_wp2_with fail
              go_loopw [156] (fun x wr => ∃ k : Nat, k ≤ i ∧ x = .int .i64 k ∧ Below w23.heap.size w23 wr) (fun x _ => i - (intOf x).toNat)
              case atStart => exact ⟨0, Nat.zero_le _, rfl, Below.refl _ _⟩
              case round =>
                obtain ⟨m, hm, rfl, hb24⟩ := hrel
                obtain ⟨w24, rfl⟩ : ∃ x, x = wr := ⟨_, rfl⟩
                have HB24 := Lib.hid (HB23.out.trans (hb24.mono HB23.out.size))
                have HX24 := Lib.hid (box_keep HX23.out hb24)
                have HC24 := Lib.hid hb24
                clear hb24
                by_cases hmi : m < i
                · obtain ⟨g2, o2, b, eb, htb, y0, y1, y2, y3, y4⟩ := (HLA9.out.below (HB10.out.trans (HB24.out.mono HB10.out.size))).rd.at5 HLA9.out.len (show m < n1 by omega)
                  injection eb with eb
                  injection eb with eb1 eb2
                  subst eb1; subst eb2
                  have okb := (HLA9.out.below (HB10.out.trans (HB24.out.mono HB10.out.size))).each b (List.mem_of_getElem? htb)
                  have oka24 := HOA.out.below HB24.out
                  have h35 : ∀ W, Below w24.heap.size w24 W → _ := fun W hW => addS a.A a.n a.c a.b a.l a.q b.A b.n b.c b.b b.l b.q 8 W (oka24.below hW).tms (oka24.below hW).cst (oka24.below hW).le (okb.below hW).tms (okb.below hW).cst (okb.below hW).le (by have h1 := oka24.few; have h2 := okb.few; omega) (by decide)
                  have hab : a.n + b.n ≤ 24 := by have h1 := oka24.few; have h2 := okb.few; omega
                  obtain ⟨T, hT⟩ : ∃ T, T = b.says P := ⟨_, rfl⟩
                  have h34 : ∀ W, Below w24.heap.size w24 W → Calls Tryz.prog 11 #[.agg #[.slice b.A b.n b.c, .bool (ratNeg b.q), .slice b.b.A b.b.n b.b.c, .slice b.b.A2 b.b.n2 b.b.c2, .int .i64 b.op], .slice A3 n3 c3] W fun r w' => r = .returned (.tuple #[.bool T, .int .i64 0]) ∧ Below W.heap.size W w' := fun W hW => by
                    have := HHO2.out W (HB10.out.trans ((HB24.out.trans (hW.mono HB24.out.size)).mono HB10.out.size)) b ((okb.below hW).up (by decide) (by decide))
                    unfold HoldsA at this
                    rwa [← hT] at this
                  have hEA := EHV.out
                  unfold AB.says at hEA hT
                  have hsum : hv = true → T = true → saysQ 1 (evE P a.l a.q + evE P b.l b.q) = true := fun hv1 hT1 => by
                    rw [hv1] at hEA
                    rw [hT1] at hT
                    have r1 := says_most hEA
                    have r2 := says_most hT.symm
                    rw [says_le]
                    exact decide_eq_true (sum_most r1 r2)
                  have H34 := Lib.hid h34
                  have H35 := Lib.hid h35
                  have HSU := Lib.hid hsum
                  clear h34 h35 hsum hT hEA okb oka24 htb
                  go_upto_region 34 with fail
                  have hx25 := heap_alloc_new w24 (.cells #[.slice b.A b.n b.c, .bool (ratNeg b.q), .slice b.b.A b.b.n b.b.c, .slice b.b.A2 b.b.n2 b.b.c2, .int .i64 b.op] 41)
                  have zw25 : (w24.alloc (.cells #[.slice b.A b.n b.c, .bool (ratNeg b.q), .slice b.b.A b.b.n b.b.c, .slice b.b.A2 b.b.n2 b.b.c2, .int .i64 b.op] 41)).heap.size = w24.heap.size + 1 := by simp
                  have aw25 := (Below.refl w24.heap.size w24).alloc (Nat.le_refl _) (.cells #[.slice b.A b.n b.c, .bool (ratNeg b.q), .slice b.b.A b.b.n b.b.c, .slice b.b.A2 b.b.n2 b.b.c2, .int .i64 b.op] 41)
                  obtain ⟨w25, ew25⟩ : ∃ x, x = w24.alloc (.cells #[.slice b.A b.n b.c, .bool (ratNeg b.q), .slice b.b.A b.b.n b.b.c, .slice b.b.A2 b.b.n2 b.b.c2, .int .i64 b.op] 41) := ⟨_, rfl⟩
                  rw [← ew25] at hx25 zw25 aw25 ⊢
                  clear ew25
                  obtain ⟨gb, hgb⟩ : ∃ x, x = w24.heap.size := ⟨_, rfl⟩
                  rw [← hgb] at hx25 ⊢
                  obtain ⟨v0, v1, v2, v3, v4⟩ := box5 hx25
                  have h34 := H34.out w25 aw25
                  have HA25 := Lib.hid aw25
                  have HX25 := Lib.hid hx25
                  clear hx25 aw25 zw25 hgb y0 y1 y2 y3 y4 H34
                  go_upto_region 35 with (go_at_call 11; refine h34.mono ?_; clear h34; rintro e w26 ⟨rfl, hb26⟩)
                  have b26 := HA25.out.trans (hb26.mono HA25.out.size)
                  obtain ⟨x0, x1, x2, x3, x4⟩ := box5 (box_keep HX24.out b26)
                  obtain ⟨y0, y1, y2, y3, y4⟩ := box5 (box_keep HX25.out hb26)
                  have h35 := H35.out w26 b26
                  have HB26 := Lib.hid b26
                  clear b26 hb26 v0 v1 v2 v3 v4 H35 HA25 HX25
                  go_upto_region 36 with (first | (go_at_call 14; go_loud (refine h35.mono ?_; clear h35; rintro e w27 ⟨A8, n8, c8, b8, l8, q8, rfl, ht8, hr8, hq8, hn8, he8, hb27⟩; have b27 := HB26.out.trans (hb27.mono HB26.out.size); have h36 := HHO2.out w27 (HB10.out.trans ((HB24.out.trans (b27.mono HB24.out.size)).mono HB10.out.size)) ⟨A8, n8, c8, b8, l8, q8, 1⟩ ⟨ht8.up (by decide), hr8, hq8.up (by decide), (show n8 ≤ 24 by omega), (show (1 : Int) ≤ 1 by decide), (show (1 : Int) ≤ 3 by decide)⟩; obtain ⟨B, hB⟩ : ∃ B, B = saysQ 1 (evE P l8 q8) := ⟨_, rfl⟩; unfold HoldsA at h36; rw [show AB.says ⟨A8, n8, c8, b8, l8, q8, 1⟩ P = B from hB.symm] at h36; rw [he8 P] at hB; have HBE := Lib.hid hB; clear hB ht8 hr8 hq8 hn8 he8 hb27)) | (go_at_call 11; refine h36.mono ?_; clear h36; rintro e w28 ⟨rfl, hb28⟩; have HB28 := Lib.hid (b27.trans (hb28.mono b27.size)); clear hb28))
                  clear x0 x1 x2 x3 x4 y0 y1 y2 y3 y4
                  by_cases hvt : hv = true
                  · have hsu := HSU.out (by first | exact hvt | trivial | cases hvt)
                    try subst hvt
                    try clear hvt
                    cases T
                    · clear hsu
                      go_wp2_with fail
                      go_roundw
                      case rel => exact ⟨m + 1, by omega, by go_num, HC24.out.trans (HB28.out.mono HC24.out.size)⟩
                      case measure => simp [intOf]; omega
                    · obtain rfl : B = true := HBE.out.trans (hsu rfl)
                      clear hsu
                      go_wp2_with fail
                      go_roundw
                      case rel => exact ⟨m + 1, by omega, by go_num, HC24.out.trans (HB28.out.mono HC24.out.size)⟩
                      case measure => simp [intOf]; omega
                  · first | exact absurd rfl hvt | skip
                    all_goals
                      have hvf : hv = false := Bool.eq_false_iff.2 hvt
                      clear hvt
                      try subst hvf
                      try clear hvf
                      go_wp2_with fail
                      go_roundw
                      case rel => exact ⟨m + 1, by omega, by go_num, HC24.out.trans (HB28.out.mono HC24.out.size)⟩
                      case measure => simp [intOf]; omega
                · obtain rfl : m = i := by omega
                  go_wp2_with fail
                  go_roundw
                  case rel => exact ⟨m + 1, by omega, by go_num, HB10.out.trans (HB24.out.mono HB10.out.size)⟩
                  case measure => simp [intOf]; omega
            · obtain ⟨w23, rfl⟩ : ∃ x, x = w22 := ⟨_, rfl⟩
              have HB23 := Lib.hid HB22.out
              have HX23 := Lib.hid HX12.out
              clear HB22 HX12 hx22 aw22
              rcases ht7 with rfl | rfl
              · obtain rfl : hv = true := EHV.out.symm.trans ((hv7 P).trans rfl)
                clear hv7
                simp only [Bool.not_true]
                have hcap := HLA9.out.cap
                have hic : (i : Int) ≤ (c1 : Int) := by omega
                have hc0 : ¬ (c1 = 0) := by omega
                have hc1 : ¬ ((c1 : Int) = 0) := by omega
                go_wp2_with fail
                go_loopw [156] (fun x wr => ∃ k : Nat, k ≤ i ∧ x = .int .i64 k ∧ Below w23.heap.size w23 wr) (fun x _ => i - (intOf x).toNat)
                case atStart => exact ⟨0, Nat.zero_le _, rfl, Below.refl _ _⟩
                case round =>
                  obtain ⟨m, hm, rfl, hb24⟩ := hrel
                  obtain ⟨w24, rfl⟩ : ∃ x, x = wr := ⟨_, rfl⟩
                  have HB24 := Lib.hid (HB23.out.trans (hb24.mono HB23.out.size))
                  have HX24 := Lib.hid (box_keep HX23.out hb24)
                  have HC24 := Lib.hid hb24
                  clear hb24
                  by_cases hmi : m < i
                  · obtain ⟨g2, o2, b, eb, htb, y0, y1, y2, y3, y4⟩ := (HLA9.out.below (HB10.out.trans (HB24.out.mono HB10.out.size))).rd.at5 HLA9.out.len (show m < n1 by omega)
                    injection eb with eb
                    injection eb with eb1 eb2
                    subst eb1; subst eb2
                    have okb := (HLA9.out.below (HB10.out.trans (HB24.out.mono HB10.out.size))).each b (List.mem_of_getElem? htb)
                    have oka24 := HOA.out.below HB24.out
                    have h35 : ∀ W, Below w24.heap.size w24 W → _ := fun W hW => addS a.A a.n a.c a.b a.l a.q b.A b.n b.c b.b b.l b.q 8 W (oka24.below hW).tms (oka24.below hW).cst (oka24.below hW).le (okb.below hW).tms (okb.below hW).cst (okb.below hW).le (by have h1 := oka24.few; have h2 := okb.few; omega) (by decide)
                    have hab : a.n + b.n ≤ 24 := by have h1 := oka24.few; have h2 := okb.few; omega
                    obtain ⟨T, hT⟩ : ∃ T, T = b.says P := ⟨_, rfl⟩
                    have h34 : ∀ W, Below w24.heap.size w24 W → Calls Tryz.prog 11 #[.agg #[.slice b.A b.n b.c, .bool (ratNeg b.q), .slice b.b.A b.b.n b.b.c, .slice b.b.A2 b.b.n2 b.b.c2, .int .i64 b.op], .slice A3 n3 c3] W fun r w' => r = .returned (.tuple #[.bool T, .int .i64 0]) ∧ Below W.heap.size W w' := fun W hW => by
                      have := HHO2.out W (HB10.out.trans ((HB24.out.trans (hW.mono HB24.out.size)).mono HB10.out.size)) b ((okb.below hW).up (by decide) (by decide))
                      unfold HoldsA at this
                      rwa [← hT] at this
                    have hEA := EHV.out
                    unfold AB.says at hEA hT
                    have hsum : true = true → T = true → saysQ 1 (evE P a.l a.q + evE P b.l b.q) = true := fun hv1 hT1 => by
                      rw [hv1] at hEA
                      rw [hT1] at hT
                      have r1 := says_most hEA
                      have r2 := says_most hT.symm
                      rw [says_le]
                      exact decide_eq_true (sum_most r1 r2)
                    have H34 := Lib.hid h34
                    have H35 := Lib.hid h35
                    have HSU := Lib.hid hsum
                    clear h34 h35 hsum hT hEA okb oka24 htb
                    go_upto_region 34 with fail
                    have hx25 := heap_alloc_new w24 (.cells #[.slice b.A b.n b.c, .bool (ratNeg b.q), .slice b.b.A b.b.n b.b.c, .slice b.b.A2 b.b.n2 b.b.c2, .int .i64 b.op] 41)
                    have zw25 : (w24.alloc (.cells #[.slice b.A b.n b.c, .bool (ratNeg b.q), .slice b.b.A b.b.n b.b.c, .slice b.b.A2 b.b.n2 b.b.c2, .int .i64 b.op] 41)).heap.size = w24.heap.size + 1 := by simp
                    have aw25 := (Below.refl w24.heap.size w24).alloc (Nat.le_refl _) (.cells #[.slice b.A b.n b.c, .bool (ratNeg b.q), .slice b.b.A b.b.n b.b.c, .slice b.b.A2 b.b.n2 b.b.c2, .int .i64 b.op] 41)
                    obtain ⟨w25, ew25⟩ : ∃ x, x = w24.alloc (.cells #[.slice b.A b.n b.c, .bool (ratNeg b.q), .slice b.b.A b.b.n b.b.c, .slice b.b.A2 b.b.n2 b.b.c2, .int .i64 b.op] 41) := ⟨_, rfl⟩
                    rw [← ew25] at hx25 zw25 aw25 ⊢
                    clear ew25
                    obtain ⟨gb, hgb⟩ : ∃ x, x = w24.heap.size := ⟨_, rfl⟩
                    rw [← hgb] at hx25 ⊢
                    obtain ⟨v0, v1, v2, v3, v4⟩ := box5 hx25
                    have h34 := H34.out w25 aw25
                    have HA25 := Lib.hid aw25
                    have HX25 := Lib.hid hx25
                    clear hx25 aw25 zw25 hgb y0 y1 y2 y3 y4 H34
                    go_upto_region 35 with (go_at_call 11; refine h34.mono ?_; clear h34; rintro e w26 ⟨rfl, hb26⟩)
                    have b26 := HA25.out.trans (hb26.mono HA25.out.size)
                    obtain ⟨x0, x1, x2, x3, x4⟩ := box5 (box_keep HX24.out b26)
                    obtain ⟨y0, y1, y2, y3, y4⟩ := box5 (box_keep HX25.out hb26)
                    have h35 := H35.out w26 b26
                    have HB26 := Lib.hid b26
                    clear b26 hb26 v0 v1 v2 v3 v4 H35 HA25 HX25
                    go_upto_region 36 with (first | (go_at_call 14; go_loud (refine h35.mono ?_; clear h35; rintro e w27 ⟨A8, n8, c8, b8, l8, q8, rfl, ht8, hr8, hq8, hn8, he8, hb27⟩; have b27 := HB26.out.trans (hb27.mono HB26.out.size); have h36 := HHO2.out w27 (HB10.out.trans ((HB24.out.trans (b27.mono HB24.out.size)).mono HB10.out.size)) ⟨A8, n8, c8, b8, l8, q8, 1⟩ ⟨ht8.up (by decide), hr8, hq8.up (by decide), (show n8 ≤ 24 by omega), (show (1 : Int) ≤ 1 by decide), (show (1 : Int) ≤ 3 by decide)⟩; obtain ⟨B, hB⟩ : ∃ B, B = saysQ 1 (evE P l8 q8) := ⟨_, rfl⟩; unfold HoldsA at h36; rw [show AB.says ⟨A8, n8, c8, b8, l8, q8, 1⟩ P = B from hB.symm] at h36; rw [he8 P] at hB; have HBE := Lib.hid hB; clear hB ht8 hr8 hq8 hn8 he8 hb27)) | (go_at_call 11; refine h36.mono ?_; clear h36; rintro e w28 ⟨rfl, hb28⟩; have HB28 := Lib.hid (b27.trans (hb28.mono b27.size)); clear hb28))
                    clear x0 x1 x2 x3 x4 y0 y1 y2 y3 y4
                    by_cases hvt : true = true
                    · have hsu := HSU.out (by first | exact hvt | trivial | cases hvt)
                      try subst hvt
                      try clear hvt
                      cases T
                      · clear hsu
                        go_wp2_with fail
                        go_roundw
                        case rel => exact ⟨m + 1, by omega, by go_num, HC24.out.trans (HB28.out.mono HC24.out.size)⟩
                        case measure => simp [intOf]; omega
                      · obtain rfl : B = true := HBE.out.trans (hsu rfl)
                        clear hsu
                        go_wp2_with fail
                        go_roundw
                        case rel => exact ⟨m + 1, by omega, by go_num, HC24.out.trans (HB28.out.mono HC24.out.size)⟩
                        case measure => simp [intOf]; omega
                    · first | exact absurd rfl hvt | skip
                      all_goals
                        have hvf : true = false := Bool.eq_false_iff.2 hvt
                        clear hvt
                        try subst hvf
                        try clear hvf
                        go_wp2_with fail
                        go_roundw
                        case rel => exact ⟨m + 1, by omega, by go_num, HC24.out.trans (HB28.out.mono HC24.out.size)⟩
                        case measure => simp [intOf]; omega
                  · obtain rfl : m = i := by omega
                    go_wp2_with fail
                    go_roundw
                    case rel => exact ⟨m + 1, by omega, by go_num, HB10.out.trans (HB24.out.mono HB10.out.size)⟩
                    case measure => simp [intOf]; omega
              · obtain rfl : hv = false := EHV.out.symm.trans ((hv7 P).trans rfl)
                clear hv7
                simp only [Bool.not_false]
                have hcap := HLA9.out.cap
                have hic : (i : Int) ≤ (c1 : Int) := by omega
                have hc0 : ¬ (c1 = 0) := by omega
                have hc1 : ¬ ((c1 : Int) = 0) := by omega
                go_wp2_with fail
                go_loopw [156] (fun x wr => ∃ k : Nat, k ≤ i ∧ x = .int .i64 k ∧ Below w23.heap.size w23 wr) (fun x _ => i - (intOf x).toNat)
                case atStart => exact ⟨0, Nat.zero_le _, rfl, Below.refl _ _⟩
                case round =>
                  obtain ⟨m, hm, rfl, hb24⟩ := hrel
                  obtain ⟨w24, rfl⟩ : ∃ x, x = wr := ⟨_, rfl⟩
                  have HB24 := Lib.hid (HB23.out.trans (hb24.mono HB23.out.size))
                  have HX24 := Lib.hid (box_keep HX23.out hb24)
                  have HC24 := Lib.hid hb24
                  clear hb24
                  by_cases hmi : m < i
                  · obtain ⟨g2, o2, b, eb, htb, y0, y1, y2, y3, y4⟩ := (HLA9.out.below (HB10.out.trans (HB24.out.mono HB10.out.size))).rd.at5 HLA9.out.len (show m < n1 by omega)
                    injection eb with eb
                    injection eb with eb1 eb2
                    subst eb1; subst eb2
                    have okb := (HLA9.out.below (HB10.out.trans (HB24.out.mono HB10.out.size))).each b (List.mem_of_getElem? htb)
                    have oka24 := HOA.out.below HB24.out
                    have h35 : ∀ W, Below w24.heap.size w24 W → _ := fun W hW => addS a.A a.n a.c a.b a.l a.q b.A b.n b.c b.b b.l b.q 8 W (oka24.below hW).tms (oka24.below hW).cst (oka24.below hW).le (okb.below hW).tms (okb.below hW).cst (okb.below hW).le (by have h1 := oka24.few; have h2 := okb.few; omega) (by decide)
                    have hab : a.n + b.n ≤ 24 := by have h1 := oka24.few; have h2 := okb.few; omega
                    obtain ⟨T, hT⟩ : ∃ T, T = b.says P := ⟨_, rfl⟩
                    have h34 : ∀ W, Below w24.heap.size w24 W → Calls Tryz.prog 11 #[.agg #[.slice b.A b.n b.c, .bool (ratNeg b.q), .slice b.b.A b.b.n b.b.c, .slice b.b.A2 b.b.n2 b.b.c2, .int .i64 b.op], .slice A3 n3 c3] W fun r w' => r = .returned (.tuple #[.bool T, .int .i64 0]) ∧ Below W.heap.size W w' := fun W hW => by
                      have := HHO2.out W (HB10.out.trans ((HB24.out.trans (hW.mono HB24.out.size)).mono HB10.out.size)) b ((okb.below hW).up (by decide) (by decide))
                      unfold HoldsA at this
                      rwa [← hT] at this
                    have hEA := EHV.out
                    unfold AB.says at hEA hT
                    have hsum : false = true → T = true → saysQ 1 (evE P a.l a.q + evE P b.l b.q) = true := fun hv1 hT1 => by
                      rw [hv1] at hEA
                      rw [hT1] at hT
                      have r1 := says_most hEA
                      have r2 := says_most hT.symm
                      rw [says_le]
                      exact decide_eq_true (sum_most r1 r2)
                    have H34 := Lib.hid h34
                    have H35 := Lib.hid h35
                    have HSU := Lib.hid hsum
                    clear h34 h35 hsum hT hEA okb oka24 htb
                    go_upto_region 34 with fail
                    have hx25 := heap_alloc_new w24 (.cells #[.slice b.A b.n b.c, .bool (ratNeg b.q), .slice b.b.A b.b.n b.b.c, .slice b.b.A2 b.b.n2 b.b.c2, .int .i64 b.op] 41)
                    have zw25 : (w24.alloc (.cells #[.slice b.A b.n b.c, .bool (ratNeg b.q), .slice b.b.A b.b.n b.b.c, .slice b.b.A2 b.b.n2 b.b.c2, .int .i64 b.op] 41)).heap.size = w24.heap.size + 1 := by simp
                    have aw25 := (Below.refl w24.heap.size w24).alloc (Nat.le_refl _) (.cells #[.slice b.A b.n b.c, .bool (ratNeg b.q), .slice b.b.A b.b.n b.b.c, .slice b.b.A2 b.b.n2 b.b.c2, .int .i64 b.op] 41)
                    obtain ⟨w25, ew25⟩ : ∃ x, x = w24.alloc (.cells #[.slice b.A b.n b.c, .bool (ratNeg b.q), .slice b.b.A b.b.n b.b.c, .slice b.b.A2 b.b.n2 b.b.c2, .int .i64 b.op] 41) := ⟨_, rfl⟩
                    rw [← ew25] at hx25 zw25 aw25 ⊢
                    clear ew25
                    obtain ⟨gb, hgb⟩ : ∃ x, x = w24.heap.size := ⟨_, rfl⟩
                    rw [← hgb] at hx25 ⊢
                    obtain ⟨v0, v1, v2, v3, v4⟩ := box5 hx25
                    have h34 := H34.out w25 aw25
                    have HA25 := Lib.hid aw25
                    have HX25 := Lib.hid hx25
                    clear hx25 aw25 zw25 hgb y0 y1 y2 y3 y4 H34
                    go_upto_region 35 with (go_at_call 11; refine h34.mono ?_; clear h34; rintro e w26 ⟨rfl, hb26⟩)
                    have b26 := HA25.out.trans (hb26.mono HA25.out.size)
                    obtain ⟨x0, x1, x2, x3, x4⟩ := box5 (box_keep HX24.out b26)
                    obtain ⟨y0, y1, y2, y3, y4⟩ := box5 (box_keep HX25.out hb26)
                    have h35 := H35.out w26 b26
                    have HB26 := Lib.hid b26
                    clear b26 hb26 v0 v1 v2 v3 v4 H35 HA25 HX25
                    go_upto_region 36 with (first | (go_at_call 14; go_loud (refine h35.mono ?_; clear h35; rintro e w27 ⟨A8, n8, c8, b8, l8, q8, rfl, ht8, hr8, hq8, hn8, he8, hb27⟩; have b27 := HB26.out.trans (hb27.mono HB26.out.size); have h36 := HHO2.out w27 (HB10.out.trans ((HB24.out.trans (b27.mono HB24.out.size)).mono HB10.out.size)) ⟨A8, n8, c8, b8, l8, q8, 1⟩ ⟨ht8.up (by decide), hr8, hq8.up (by decide), (show n8 ≤ 24 by omega), (show (1 : Int) ≤ 1 by decide), (show (1 : Int) ≤ 3 by decide)⟩; obtain ⟨B, hB⟩ : ∃ B, B = saysQ 1 (evE P l8 q8) := ⟨_, rfl⟩; unfold HoldsA at h36; rw [show AB.says ⟨A8, n8, c8, b8, l8, q8, 1⟩ P = B from hB.symm] at h36; rw [he8 P] at hB; have HBE := Lib.hid hB; clear hB ht8 hr8 hq8 hn8 he8 hb27)) | (go_at_call 11; refine h36.mono ?_; clear h36; rintro e w28 ⟨rfl, hb28⟩; have HB28 := Lib.hid (b27.trans (hb28.mono b27.size)); clear hb28))
                    clear x0 x1 x2 x3 x4 y0 y1 y2 y3 y4
                    by_cases hvt : false = true
                    · have hsu := HSU.out (by first | exact hvt | trivial | cases hvt)
                      try subst hvt
                      try clear hvt
                      cases T
                      · clear hsu
                        go_wp2_with fail
                        go_roundw
                        case rel => exact ⟨m + 1, by omega, by go_num, HC24.out.trans (HB28.out.mono HC24.out.size)⟩
                        case measure => simp [intOf]; omega
                      · obtain rfl : B = true := HBE.out.trans (hsu rfl)
                        clear hsu
                        go_wp2_with fail
                        go_roundw
                        case rel => exact ⟨m + 1, by omega, by go_num, HC24.out.trans (HB28.out.mono HC24.out.size)⟩
                        case measure => simp [intOf]; omega
                    · first | exact absurd rfl hvt | skip
                      all_goals
                        have hvf : false = false := Bool.eq_false_iff.2 hvt
                        clear hvt
                        try subst hvf
                        try clear hvf
                        go_wp2_with fail
                        go_roundw
                        case rel => exact ⟨m + 1, by omega, by go_num, HC24.out.trans (HB28.out.mono HC24.out.size)⟩
                        case measure => simp [intOf]; omega
                  · obtain rfl : m = i := by omega
                    go_wp2_with fail
                    go_roundw
                    case rel => exact ⟨m + 1, by omega, by go_num, HB10.out.trans (HB24.out.mono HB10.out.size)⟩
                    case measure => simp [intOf]; omega
      · obtain rfl : i = n1 := by omega
        go_wp2_with fail
        go_ret
        exact ⟨rfl, HB9.out.trans (HB10.out.mono HB9.out.size)⟩
end Go.Proofs.YtlbbbafehhdpnaaGreatDoor
