/- Contract of atom.KeyOf. -/
import Derived.Test.YtlbbbafehhdpnaaGreatDoorAtomE
import Derived.Test.YtlbbbafehhdpnaaGreatDoorLinMath
import Derived.Test.YtlbbbafehhdpnaaGreatDoorRtPrint
import Derived.Test.YtlbbbafehhdpnaaGreatDoorShelfI
import Derived.Lib.ItoaLen
import Derived.Lib.AppendIntMem
namespace Go.Proofs.YtlbbbafehhdpnaaGreatDoor
open Go.RowKit
set_option linter.unusedVariables false
set_option linter.unusedSimpArgs false

theorem grow_belowK {w : World} (os : Array Obj) : Below w.heap.size w (Sort.grow w os) :=
  ⟨rfl, rfl, rfl, by simp, fun k hk => Sort.heap_grow_old w os hk⟩
def Pow10 (w : World) : Prop := Lib.TabIs Tryz.prog w "internal/strconv.uint64pow10" .u64 Lib.pow10Tab
theorem Pow10.below {w w' : World} (h : Pow10 w) (hb : Below w.heap.size w w') : Pow10 w' := Lib.tabBelow_of_tabIs h w' hb
theorem itoaS (n : Int) (h0 : -9223372036854775808 ≤ n) (h1 : n ≤ 9223372036854775807) (w : World) (ht : Pow10 w) :
    Calls Tryz.prog 31 #[.int .i64 n] w fun e w' => e = .returned (.string (strB (Lib.itoa n))) ∧ Below w.heap.size w w' := by
  refine (Tryz.strconv_Itoa n h0 h1 w ht).mono ?_
  rintro e w' ⟨rfl, k, os, rfl⟩
  refine ⟨rfl, ?_⟩
  have h : Below w.heap.size w (w.drewN k) := ⟨rfl, rfl, rfl, Nat.le_refl _, fun _ _ => rfl⟩
  exact h.trans (grow_belowK (w := w.drewN k) os)
/-- a key in memory. -/
structure KB where
  o : Int
  s : Bool
  x : ByteArray
  y : ByteArray
  t : ByteArray
def KB.val (k : KB) : Value := .agg #[.int .i64 k.o, .bool k.s, .string k.x, .string k.y, .string k.t]
/-- what a key tells of a constraint that says 'says'. -/
def KeyOk (k : KB) (says : (Int → Rat) → Bool) : Prop :=
  (k.o = -1 ∧ ∀ p, says p = true) ∨ (k.o = -2 ∧ ∀ p, says p = false) ∨ (1 ≤ k.o ∧ ∃ (l : List TB) (q : Rat), k.s = ratNeg q ∧ k.x = keyStr q.num.natAbs ∧ k.y = keyStr q.den ∧ k.t = strB (tmTxt (tmsOf l)) ∧ ∀ p, says p = saysQ k.o (evE p l q))
theorem keyOk_same {k : KB} {f g : (Int → Rat) → Bool} (hf : KeyOk k f) (hg : KeyOk k g) : ∀ p, f p = g p := by
  intro p
  rcases hf with ⟨h, hf⟩ | ⟨h, hf⟩ | ⟨h, l, q, h1, h2, h3, h4, hf⟩ <;> rcases hg with ⟨h', hg⟩ | ⟨h', hg⟩ | ⟨h', l', q', h1', h2', h3', h4', hg⟩
  · rw [hf, hg]
  · omega
  · omega
  · omega
  · rw [hf, hg]
  · omega
  · omega
  · omega
  · have e1 : q = q' := rat_ext (h1.symm.trans h1') (key_inj (h2.symm.trans h2')) (key_inj (h3.symm.trans h3'))
    have e2 : tmsOf l = tmsOf l' := by
      have := congrArg (fun b : ByteArray => b.data.toList) (h4.symm.trans h4')
      simp only [strB_data] at this
      exact tmTxt_inj _ _ this
    rw [hf, hg, e1]
    unfold evE
    rw [e2]
theorem tmTxt_len (B : Nat) : ∀ l : List Tm, (∀ t ∈ l, (Lib.itoa t.1).length + (printL t.2).length + 2 ≤ B) → (tmTxt l).length ≤ B * l.length
  | [], _ => by simp [tmTxt]
  | t :: r, h => by
    have h1 := h t (by simp)
    have h2 := tmTxt_len B r (fun t ht => h t (by simp [ht]))
    rw [List.length_cons, Nat.mul_succ]
    simp only [tmTxt, List.length_append, List.length_cons, List.length_nil]
    omega
theorem print_len (q : Rat) (K : Nat) (h : RatLe q K) : (printL q).length ≤ 64 * K + 66 := by
  have := dg_le _ _ h.num
  have := dg_le _ _ h.den
  unfold printL signL bodyL
  simp only [List.length_append]
  split <;> split <;> simp <;> omega
set_option maxRecDepth 100000 in
set_option maxHeartbeats 4000000 in
theorem keyof_any (A : Option Addr) (n c : Nat) (b : RB) (l : List TB) (q : Rat) (op : Int) (k : Nat) (w : World) (h : TmsAt w A n c l k) (hr : RatAt w b q) (hq : RatLe q k) (hn : n ≤ 30) (hk : k ≤ 20) (h1 : 1 ≤ op) (h3 : op ≤ 3) (ht : Pow10 w) :
    Calls Tryz.prog 18 #[.agg #[.slice A n c, .bool (ratNeg q), .slice b.A b.n b.c, .slice b.A2 b.n2 b.c2, .int .i64 op]] w fun r w' => ∃ kb : KB, r = .returned (.tuple #[kb.val, .int .i64 0]) ∧ KeyOk kb (fun p => saysQ op (evE p l q)) ∧ Below w.heap.size w w' := by
  obtain ⟨s, hs⟩ : ∃ s, s = ratNeg q := ⟨_, rfl⟩
  obtain ⟨K, hK⟩ : ∃ K, K = 31 * (31 * (k + 1) + 31 * (k + 1) + 1) := ⟨_, rfl⟩
  have hca : ∀ W, Below w.heap.size w W → Calls Tryz.prog 13 #[.agg #[.slice A n c, .bool s, .slice b.A b.n b.c, .slice b.A2 b.n2 b.c2, .int .i64 op]] W fun r w' => CanA W n op (fun p => evE p l q) K r w' := fun W hb => by
    rw [hs, hK]
    exact acanon_any A n c b l q op k W (h.below hb) (hr.below hb) hq hn (by omega) h1 h3
  have hkk : K ≤ 50000 := by omega
  rw [← hs]
  have HCA := Lib.hid hca
  have HT := Lib.hid ht
  clear hs hK hca h hr hq ht
  go_enter Tryz.func18, Tryz.ntmps18
  go_upto_region 1 with fail
  have hx1 := heap_alloc_new w (.cells #[.slice A n c, .bool s, .slice b.A b.n b.c, .slice b.A2 b.n2 b.c2, .int .i64 op] 41)
  have zw1 : (w.alloc (.cells #[.slice A n c, .bool s, .slice b.A b.n b.c, .slice b.A2 b.n2 b.c2, .int .i64 op] 41)).heap.size = w.heap.size + 1 := by simp
  have aw1 := (Below.refl w.heap.size w).alloc (Nat.le_refl _) (.cells #[.slice A n c, .bool s, .slice b.A b.n b.c, .slice b.A2 b.n2 b.c2, .int .i64 op] 41)
  obtain ⟨w1, ew1⟩ : ∃ x, x = w.alloc (.cells #[.slice A n c, .bool s, .slice b.A b.n b.c, .slice b.A2 b.n2 b.c2, .int .i64 op] 41) := ⟨_, rfl⟩
  rw [← ew1] at hx1 zw1 aw1 ⊢
  clear ew1
  have hx2 := heap_alloc_new w1 (.cells #[.int .i64 0, .bool false, .string ⟨#[]⟩, .string ⟨#[]⟩, .string ⟨#[]⟩] 64)
  have zw2 : (w1.alloc (.cells #[.int .i64 0, .bool false, .string ⟨#[]⟩, .string ⟨#[]⟩, .string ⟨#[]⟩] 64)).heap.size = w1.heap.size + 1 := by simp
  have aw2 := (Below.refl w1.heap.size w1).alloc (Nat.le_refl _) (.cells #[.int .i64 0, .bool false, .string ⟨#[]⟩, .string ⟨#[]⟩, .string ⟨#[]⟩] 64)
  obtain ⟨w2, ew2⟩ : ∃ x, x = w1.alloc (.cells #[.int .i64 0, .bool false, .string ⟨#[]⟩, .string ⟨#[]⟩, .string ⟨#[]⟩] 64) := ⟨_, rfl⟩
  rw [← ew2] at hx2 zw2 aw2 ⊢
  clear ew2
  rw [zw1] at hx2
  have b2 := aw1.trans (aw2.mono aw1.size)
  have hv1 := box_keep hx1 aw2
  obtain ⟨x0, x1, x2, x3, x4⟩ := box5 hv1
  have hz2 : w2.heap.size = w.heap.size + 1 + 1 := by rw [zw2, zw1]
  have HX2 := Lib.hid hx2
  have HB2 := Lib.hid b2
  have HZ2 := Lib.hid hz2
  have hcall := HCA.out w2 b2
  clear hx1 hx2 hv1 b2 aw1 aw2 zw1 zw2 hz2
  go_upto_region 2 with (go_at_call 13; refine hcall.mono ?_; clear hcall; rintro e w3 ⟨A3, n3, c3, b3, l3, q3, o3, t3, rfl, hb3, hcase⟩)
  have hx4 := heap_alloc_new w3 (.cells #[.slice A3 n3 c3, .bool (ratNeg q3), .slice b3.A b3.n b3.c, .slice b3.A2 b3.n2 b3.c2, .int .i64 o3] 41)
  have zw4 : (w3.alloc (.cells #[.slice A3 n3 c3, .bool (ratNeg q3), .slice b3.A b3.n b3.c, .slice b3.A2 b3.n2 b3.c2, .int .i64 o3] 41)).heap.size = w3.heap.size + 1 := by simp
  have aw4 := (Below.refl w3.heap.size w3).alloc (Nat.le_refl _) (.cells #[.slice A3 n3 c3, .bool (ratNeg q3), .slice b3.A b3.n b3.c, .slice b3.A2 b3.n2 b3.c2, .int .i64 o3] 41)
  obtain ⟨w4, ew4⟩ : ∃ x, x = w3.alloc (.cells #[.slice A3 n3 c3, .bool (ratNeg q3), .slice b3.A b3.n b3.c, .slice b3.A2 b3.n2 b3.c2, .int .i64 o3] 41) := ⟨_, rfl⟩
  rw [← ew4] at hx4 zw4 aw4 ⊢
  clear ew4
  obtain ⟨g4, hg4⟩ : ∃ x, x = w3.heap.size := ⟨_, rfl⟩
  rw [← hg4] at hx4 ⊢
  have b4 := hb3.trans (aw4.mono hb3.size)
  have hx2 := box_keep HX2.out b4
  have hg2 : w2.heap.size ≤ g4 := by rw [hg4]; exact hb3.size
  have HB4 := Lib.hid (HB2.out.trans (b4.mono HB2.out.size))
  have HG4 := Lib.hid (And.intro hg2 (lt_of_blk hx4))
  have HZG := Lib.hid (show w.heap.size + 1 < g4 by have := HZ2.out; omega)
  clear x0 x1 x2 x3 x4 HX2 hg4
  rcases hcase with ⟨rfl, rfl, ht3, hr3, hq3, hn3, hv3⟩ | ⟨ht3, hv3⟩
  · obtain ⟨y0, y1, y2, y3, y4⟩ := box5 hx4
    have HT4 := Lib.hid (ht3.below aw4)
    have HR4 := Lib.hid (hr3.below aw4)
    have HQ4 := Lib.hid hq3
    have HV3 := Lib.hid hv3
    have HX4 := Lib.hid hx4
    have HX2 := Lib.hid hx2
    have HN3 := Lib.hid hn3
    have HT10 := Lib.hid (HT.out.below HB4.out)
    have n30 : n3 ≤ 30 := by omega
    have hall : ∀ u ∈ tmsOf l3, (Lib.itoa u.1).length + (printL u.2).length + 2 ≤ 20000000 := by
      intro u hu
      obtain ⟨t, ht, rfl⟩ := List.mem_map.1 hu
      have := HT4.out.each t ht
      have h1 := Lib.itoa_length_le _ this.2.2.1 this.2.2.2
      have h2 := print_len _ _ this.2.1
      omega
    have HALL := Lib.hid hall
    clear hall
    clear hx4 hx2 ht3 hr3 hq3 hv3 hn3 aw4 zw4 b4 hb3 hg2 HT HB2 HZ2
    go_wp2_with fail
    clear y0 y1 y2 y3 y4
    go_loopw [7, 31] (fun v x wr => ∃ i : Nat, i ≤ n3 ∧ v = .string (strB (tmTxt ((tmsOf l3).take i))) ∧ x = .int .i64 i ∧ Below w4.heap.size w4 wr) (fun _ x _ => n3 - (intOf x).toNat)
    case atStart => exact ⟨0, Nat.zero_le _, rfl, by first | rfl | go_num, Below.refl _ _⟩
    case round =>
      obtain ⟨i, hin, rfl, rfl, hb5⟩ := hrel
      obtain ⟨w5, rfl⟩ : ∃ x, x = wr := ⟨_, rfl⟩
      have HB5 := Lib.hid hb5
      by_cases hlt : i < n3
      · obtain ⟨g3, of3, t, ea, hti, y0, y1, y2, y3⟩ := (HT4.out.below hb5).rd.at4 HT4.out.len hlt
        subst ea
        have hok := (HT4.out.below hb5).each t (List.mem_of_getElem? hti)
        have HOK := Lib.hid hok
        have HTI := Lib.hid hti
        have b0 : (0 : Int) ≤ (i : Int) := by omega
        clear hb5 hok hti
        go_upto_region 10 with fail
        have hx6 := heap_alloc_new w5 (.cells #[.int .i64 t.2.1, .bool (ratNeg t.2.2), .slice t.1.A t.1.n t.1.c, .slice t.1.A2 t.1.n2 t.1.c2] 70)
        have zw6 : (w5.alloc (.cells #[.int .i64 t.2.1, .bool (ratNeg t.2.2), .slice t.1.A t.1.n t.1.c, .slice t.1.A2 t.1.n2 t.1.c2] 70)).heap.size = w5.heap.size + 1 := by simp
        have aw6 := (Below.refl w5.heap.size w5).alloc (Nat.le_refl _) (.cells #[.int .i64 t.2.1, .bool (ratNeg t.2.2), .slice t.1.A t.1.n t.1.c, .slice t.1.A2 t.1.n2 t.1.c2] 70)
        obtain ⟨w6, ew6⟩ : ∃ x, x = w5.alloc (.cells #[.int .i64 t.2.1, .bool (ratNeg t.2.2), .slice t.1.A t.1.n t.1.c, .slice t.1.A2 t.1.n2 t.1.c2] 70) := ⟨_, rfl⟩
        rw [← ew6] at hx6 zw6 aw6 ⊢
        clear ew6
        obtain ⟨gt, hgt⟩ : ∃ x, x = w5.heap.size := ⟨_, rfl⟩
        rw [← hgt] at hx6 ⊢
        have hok := HOK.out.below aw6
        have hb6 := HB5.out.trans (aw6.mono HB5.out.size)
        have ht6 := HT10.out.below hb6
        have hit := fun W (hb : Below w6.heap.size w6 W) => itoaS t.2.1 hok.2.2.1 hok.2.2.2 W (ht6.below hb)
        have hpr := fun W (hb : Below w6.heap.size w6 W) => print_any t.1 t.2.2 W (hok.1.below hb) K (by omega) hok.2.1
        unfold RB.val at hpr
        have hsz1 : (strB (Lib.itoa t.2.1)).size ≤ 21 := by rw [strB_size]; exact Lib.itoa_length_le _ hok.2.2.1 hok.2.2.2
        have hsz2 : (strB (printL t.2.2)).size ≤ 10000000 := by
          rw [strB_size]
          have := print_len _ _ hok.2.1
          omega
        have hsz0 : (strB (tmTxt ((tmsOf l3).take i))).size ≤ 20000000 * i := by
          rw [strB_size]
          refine Nat.le_trans (tmTxt_len 20000000 _ (fun u hu => HALL.out u (List.mem_of_mem_take hu))) ?_
          exact Nat.mul_le_mul_left _ (by rw [List.length_take]; exact Nat.min_le_left _ _)
        have hnx : strB (tmTxt ((tmsOf l3).take (i + 1))) = strB (tmTxt ((tmsOf l3).take i)) ++ (strB (Lib.itoa t.2.1) ++ ⟨#[58]⟩ ++ strB (printL t.2.2) ++ ⟨#[32]⟩) := by
          rw [show (⟨#[58]⟩ : ByteArray) = strB [58] from rfl, show (⟨#[32]⟩ : ByteArray) = strB [32] from rfl, strB_append, strB_append, strB_append, strB_append]
          rw [List.take_add_one, show (tmsOf l3)[i]? = some t.2 by unfold tmsOf; rw [List.getElem?_map, HTI.out]; rfl, tmTxt_app]
          simp [tmTxt]
        have HIT := Lib.hid hit
        have HPR := Lib.hid hpr
        have HNX := Lib.hid hnx
        have HB6 := Lib.hid hb6
        have hcs : ∀ W', Below w6.heap.size w6 W' → W'.cell? ⟨gt, 0, none⟩ = some (.int .i64 t.2.1) ∧ W'.cell? ⟨gt, 1, none⟩ = some (.bool (ratNeg t.2.2)) ∧ W'.cell? ⟨gt, 2, none⟩ = some (.slice t.1.A t.1.n t.1.c) ∧ W'.cell? ⟨gt, 3, none⟩ = some (.slice t.1.A2 t.1.n2 t.1.c2) := fun W' hb => box4 (box_keep hx6 hb)
        have HCS := Lib.hid hcs
        have hs0 : (strB (tmTxt ((tmsOf l3).take i))).size ≤ 600000000 := by omega
        clear hok hb6 ht6 hit hpr hnx hcs hx6 aw6 zw6 hgt y0 y1 y2 y3 hsz0
        obtain ⟨S0, hS0⟩ : ∃ x, x = strB (tmTxt ((tmsOf l3).take i)) := ⟨_, rfl⟩
        obtain ⟨S1, hS1⟩ : ∃ x, x = strB (Lib.itoa t.2.1) := ⟨_, rfl⟩
        obtain ⟨S2, hS2⟩ : ∃ x, x = strB (printL t.2.2) := ⟨_, rfl⟩
        rw [← hS1] at HIT HNX hsz1
        rw [← hS2] at HPR HNX hsz2
        rw [← hS0] at HNX hs0 ⊢
        clear hS0 hS1 hS2
        obtain ⟨c0, c1, c2, c3⟩ := HCS.out w6.drew (below_drew2 (Below.refl _ _))
        go_region_with (first | (go_at_call 31; refine (HIT.out _ (below_drew2 (Below.refl _ _))).mono ?_; rintro e u1 ⟨rfl, hb1⟩; have k1 : Below w6.heap.size w6 u1 := (below_drew2 (Below.refl _ _)).trans (hb1.mono (Nat.le_refl _)); obtain ⟨d0, d1, d2, d3⟩ := HCS.out _ k1; clear hb1) | (go_at_call 32; refine (HPR.out _ k1).mono ?_; rintro e u2 ⟨rfl, hb2⟩; have k2 : Below w6.heap.size w6 u2 := k1.trans (hb2.mono k1.size); clear hb2))
        all_goals
          go_wp2_with fail
          go_roundw
          case rel => exact ⟨i + 1, by omega, by rw [HNX.out], by go_num, HB6.out.trans (k2.mono HB6.out.size)⟩
          case measure => simp [intOf]; omega
      · have ei : i = n3 := by omega
        subst ei
        have hb0 := HB4.out.trans (hb5.mono HB4.out.size)
        have hx4 := box_keep HX4.out hb5
        have hx2 := box_keep HX2.out hb5
        have hg := HG4.out
        have hcs : ∀ W', Fr (fun kk => kk = w.heap.size + 1) w5 W' → W'.cell? ⟨g4, 1, none⟩ = some (.bool (ratNeg q3)) ∧ W'.cell? ⟨g4, 2, none⟩ = some (.slice b3.A b3.n b3.c) ∧ W'.cell? ⟨g4, 3, none⟩ = some (.slice b3.A2 b3.n2 b3.c2) ∧ W'.cell? ⟨g4, 4, none⟩ = some (.int .i64 o3) := fun W' hf => (box5 ((hf.block _ (lt_of_blk hx4) (by have := HZG.out; omega)).trans hx4)).2
        have hky := fun W (hb : Below w5.heap.size w5 W) => key_any b3 q3 W ((HR4.out.below hb5).below hb) K (by omega) HQ4.out
        unfold RB.val keyVal at hky
        have HCS := Lib.hid hcs
        have HKY := Lib.hid hky
        have HX2' := Lib.hid hx2
        have HB0 := Lib.hid hb0
        have htk : (tmsOf l3).take i = tmsOf l3 := List.take_of_length_le (by rw [tmsOf_len, HT4.out.len]; exact Nat.le_refl _)
        rw [htk]
        have hlt2 : ¬ (i < i) := by omega
        obtain ⟨S0, hS0⟩ : ∃ x, x = strB (tmTxt (tmsOf l3)) := ⟨_, rfl⟩
        rw [← hS0]
        have HS0 := Lib.hid hS0
        clear hb0 hx4 hx2 hg hcs hky htk hS0 hlt hb5
        go_upto_region 12 with fail
        go_region_held3 (fun W' => W'.cell? ⟨g4, 1, none⟩ = some (.bool (ratNeg q3)) ∧ W'.cell? ⟨g4, 2, none⟩ = some (.slice b3.A b3.n b3.c) ∧ W'.cell? ⟨g4, 3, none⟩ = some (.slice b3.A2 b3.n2 b3.c2) ∧ W'.cell? ⟨g4, 4, none⟩ = some (.int .i64 o3)) ((refine HCS.out _ ?_; repeat' (first | with_reducible exact Fr.of_below k1 | with_reducible exact (Fr.refl _ _).drew | with_reducible refine fr_set ?_ ?_ | exact .inl rfl))) (first | (go_at_call 33; refine (HKY.out _ (below_drew2 (Below.refl _ _))).mono ?_; rintro e u1 ⟨rfl, hb1⟩; have k1 : Below w5.heap.size w5 u1 := (below_drew2 (Below.refl _ _)).trans (hb1.mono (Nat.le_refl _)); have HXU := Lib.hid (box_keep HX2'.out k1); obtain ⟨p0, p1, p2, p3, p4⟩ := box5 HXU.out; have z0 := frozen_of_blk HXU.out 0; have z1 := frozen_of_blk HXU.out 1; have z2 := frozen_of_blk HXU.out 2; have z3 := frozen_of_blk HXU.out 3; have z4 := frozen_of_blk HXU.out 4; clear hb1))
        all_goals
          go_wp2_with fail
          refine bodyPost_ret (v := .tuple #[.agg #[.int .i64 o3, .bool (ratNeg q3), .string (keyStr q3.num.natAbs), .string (keyStr q3.den), .string S0], .int .i64 0]) (by simp [results, Tryz.results18, go_sem, p0, p1, p2, p3, p4]) rfl ?_
          refine ⟨⟨o3, ratNeg q3, keyStr q3.num.natAbs, keyStr q3.den, S0⟩, rfl, .inr (.inr ⟨h1, l3, q3, rfl, rfl, rfl, HS0.out, fun p => (HV3.out p).symm⟩), ?_⟩
          exact bl_set (bl_set (bl_set (bl_set (bl_set (HB0.out.trans (k1.mono HB0.out.size)) (Nat.le_succ _)) (Nat.le_succ _)) (Nat.le_succ _)) (Nat.le_succ _)) (Nat.le_succ _)
  · obtain ⟨p0, p1, p2, p3, p4⟩ := box5 hx2
    have z0 := frozen_of_blk hx2 0
    have z1 := frozen_of_blk hx2 1
    have z2 := frozen_of_blk hx2 2
    have z3 := frozen_of_blk hx2 3
    have z4 := frozen_of_blk hx2 4
    have HV3 := Lib.hid hv3
    clear hx4 hx2 hv3 b4 aw4 zw4
    rcases ht3 with rfl | rfl
    · go_wp2_with fail
      refine bodyPost_ret (v := .tuple #[.agg #[.int .i64 (-1), .bool false, .string ⟨#[]⟩, .string ⟨#[]⟩, .string ⟨#[]⟩], .int .i64 0]) (by simp [results, Tryz.results18, go_sem, p0, p1, p2, p3, p4]) rfl ?_
      refine ⟨⟨-1, false, ⟨#[]⟩, ⟨#[]⟩, ⟨#[]⟩⟩, rfl, .inl ⟨rfl, fun p => ?_⟩, ?_⟩
      · exact (HV3.out p).trans rfl
      · exact bl_set (bl_set (bl_set (bl_set (bl_set HB4.out (Nat.le_succ _)) (Nat.le_succ _)) (Nat.le_succ _)) (Nat.le_succ _)) (Nat.le_succ _)
    · go_wp2_with fail
      refine bodyPost_ret (v := .tuple #[.agg #[.int .i64 (-2), .bool false, .string ⟨#[]⟩, .string ⟨#[]⟩, .string ⟨#[]⟩], .int .i64 0]) (by simp [results, Tryz.results18, go_sem, p0, p1, p2, p3, p4]) rfl ?_
      refine ⟨⟨-2, false, ⟨#[]⟩, ⟨#[]⟩, ⟨#[]⟩⟩, rfl, .inr (.inl ⟨rfl, fun p => ?_⟩), ?_⟩
      · exact (HV3.out p).trans rfl
      · exact bl_set (bl_set (bl_set (bl_set (bl_set HB4.out (Nat.le_succ _)) (Nat.le_succ _)) (Nat.le_succ _)) (Nat.le_succ _)) (Nat.le_succ _)
end Go.Proofs.YtlbbbafehhdpnaaGreatDoor
