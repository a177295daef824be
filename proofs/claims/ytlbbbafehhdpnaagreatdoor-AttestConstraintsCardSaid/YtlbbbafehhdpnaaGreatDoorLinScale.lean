/- Contract of lin.Scale. -/
import Derived.Test.YtlbbbafehhdpnaaGreatDoorRegApp
import Derived.Test.YtlbbbafehhdpnaaGreatDoorRegE
import Derived.Test.YtlbbbafehhdpnaaGreatDoorRatI
namespace Go.Proofs.YtlbbbafehhdpnaaGreatDoor
open Go.RowKit
set_option linter.unusedVariables false
set_option linter.unusedSimpArgs false

theorem COut.frE {w0 w w' : World} {v : Value} {lo : List TB} {K g : Nat} {cs : Array Value} {t : TypeId} (h : COut w0 w v lo K) (hf : Fr (fun k => k = g) w w') (hx : w.heap[g]? = some (.cells cs t (0, 0))) (ht : t ≠ 92 ∧ t ≠ 70) : COut w0 w' v lo K := by
  refine ⟨hf.own h.own ?_, h.new, fun u hu => ⟨(h.each u hu).1.frB hf (typ_of hx ht), (h.each u hu).2⟩⟩
  rintro b hb rfl
  exact own_type h.own hx (Ne.symm ht.2) hb
set_option maxRecDepth 100000 in
set_option maxHeartbeats 4000000 in
theorem scale_any (br : RB) (r : Rat) (A : Option Addr) (n c : Nat) (b : RB) (l : List TB) (q : Rat) (kr k : Nat) (w : World) (hrr : RatAt w br r) (hrl : RatLe r kr) (h : TmsAt w A n c l k) (hr : RatAt w b q) (hq : RatLe q k) (hn : n ≤ 30) (hk : kr + k ≤ 30000) :
    Calls Tryz.prog 19 #[.agg #[.bool (ratNeg r), .slice br.A br.n br.c, .slice br.A2 br.n2 br.c2], .agg #[.slice A n c, .bool (ratNeg q), .slice b.A b.n b.c, .slice b.A2 b.n2 b.c2]] w fun e w' => ∃ l2 : List TB, tmsOf l2 = scT r (tmsOf l) ∧ ExP w n l2 (r * q) (kr + k) (kr + k) e w' := by
  obtain ⟨s, hs⟩ : ∃ s, s = ratNeg q := ⟨_, rfl⟩
  obtain ⟨s2, hs2⟩ : ∃ s2, s2 = ratNeg r := ⟨_, rfl⟩
  rw [← hs, ← hs2]
  have HS := Lib.hid hs
  have HS2 := Lib.hid hs2
  clear hs hs2
  go_enter Tryz.func19, Tryz.ntmps19
  go_upto_region 1 with fail
  have hx1 := heap_alloc_new w (.cells #[.bool s2, .slice br.A br.n br.c, .slice br.A2 br.n2 br.c2] 33)
  have zw1 : (w.alloc (.cells #[.bool s2, .slice br.A br.n br.c, .slice br.A2 br.n2 br.c2] 33)).heap.size = w.heap.size + 1 := by simp
  have aw1 := (Below.refl w.heap.size w).alloc (Nat.le_refl _) (.cells #[.bool s2, .slice br.A br.n br.c, .slice br.A2 br.n2 br.c2] 33)
  obtain ⟨w1, ew1⟩ : ∃ x, x = w.alloc (.cells #[.bool s2, .slice br.A br.n br.c, .slice br.A2 br.n2 br.c2] 33) := ⟨_, rfl⟩
  rw [← ew1] at hx1 zw1 aw1 ⊢
  clear ew1
  have hx2 := heap_alloc_new w1 (.cells #[.slice A n c, .bool s, .slice b.A b.n b.c, .slice b.A2 b.n2 b.c2] 35)
  have zw2 : (w1.alloc (.cells #[.slice A n c, .bool s, .slice b.A b.n b.c, .slice b.A2 b.n2 b.c2] 35)).heap.size = w1.heap.size + 1 := by simp
  have aw2 := (Below.refl w1.heap.size w1).alloc (Nat.le_refl _) (.cells #[.slice A n c, .bool s, .slice b.A b.n b.c, .slice b.A2 b.n2 b.c2] 35)
  obtain ⟨w2, ew2⟩ : ∃ x, x = w1.alloc (.cells #[.slice A n c, .bool s, .slice b.A b.n b.c, .slice b.A2 b.n2 b.c2] 35) := ⟨_, rfl⟩
  rw [← ew2] at hx2 zw2 aw2 ⊢
  clear ew2
  have hx3 := heap_alloc_new w2 (.cells #[.slice none 0 0, .bool false, .slice none 0 0, .slice none 0 0] 35)
  have zw3 : (w2.alloc (.cells #[.slice none 0 0, .bool false, .slice none 0 0, .slice none 0 0] 35)).heap.size = w2.heap.size + 1 := by simp
  have aw3 := (Below.refl w2.heap.size w2).alloc (Nat.le_refl _) (.cells #[.slice none 0 0, .bool false, .slice none 0 0, .slice none 0 0] 35)
  obtain ⟨w3, ew3⟩ : ∃ x, x = w2.alloc (.cells #[.slice none 0 0, .bool false, .slice none 0 0, .slice none 0 0] 35) := ⟨_, rfl⟩
  rw [← ew3] at hx3 zw3 aw3 ⊢
  clear ew3
  rw [zw1] at hx2
  rw [zw2, zw1] at hx3
  have b2 : Below w.heap.size w w2 := aw1.trans (aw2.mono aw1.size)
  have b3 : Below w.heap.size w w3 := b2.trans (aw3.mono b2.size)
  have hv1 := box_keep (box_keep hx1 aw2) aw3
  have hv2 := box_keep hx2 aw3
  clear hx1 hx2
  have hz3 : w3.heap.size = w.heap.size + 1 + 1 + 1 := by rw [zw3, zw2, zw1]
  have hml := rmul_any br b r q w3 (hrr.below b3) (hr.below b3) (kr + k) (by omega) (hrl.up (by omega)) (hq.up (by omega))
  unfold RB.val at hml
  rw [← HS.out, ← HS2.out] at hml
  obtain ⟨x0, x1, x2⟩ := boxk hv1
  obtain ⟨y0, y1, y2, y3⟩ := box4 hv2
  have HX1 := Lib.hid hv1
  have HX2 := Lib.hid hv2
  have HX3 := Lib.hid hx3
  have HB3 := Lib.hid b3
  have HT3 := Lib.hid (h.below b3)
  have HR3 := Lib.hid (hrr.below b3)
  have HRL := Lib.hid hrl
  have HZ3 := Lib.hid hz3
  have HML := Lib.hid hml
  have HQ := Lib.hid (mul_le hrl hq)
  clear hv1 hv2 hx3 b2 b3 aw1 aw2 aw3 zw1 zw2 zw3 hz3 hml hrr hrl h hr hq w1 w2
  go_upto_region 2 with (go_at_call 34; refine HML.out.mono ?_; rintro e w4 ⟨b4, rfl, hr4, hb4⟩)
  have hx5 := heap_alloc_new w4 (.cells #[.slice none 0 0, .bool (ratNeg (r * q)), .slice b4.A b4.n b4.c, .slice b4.A2 b4.n2 b4.c2] 35)
  have zw5 : (w4.alloc (.cells #[.slice none 0 0, .bool (ratNeg (r * q)), .slice b4.A b4.n b4.c, .slice b4.A2 b4.n2 b4.c2] 35)).heap.size = w4.heap.size + 1 := by simp
  have aw5 := (Below.refl w4.heap.size w4).alloc (Nat.le_refl _) (.cells #[.slice none 0 0, .bool (ratNeg (r * q)), .slice b4.A b4.n b4.c, .slice b4.A2 b4.n2 b4.c2] 35)
  obtain ⟨w5, ew5⟩ : ∃ x, x = w4.alloc (.cells #[.slice none 0 0, .bool (ratNeg (r * q)), .slice b4.A b4.n b4.c, .slice b4.A2 b4.n2 b4.c2] 35) := ⟨_, rfl⟩
  rw [← ew5] at hx5 zw5 aw5 ⊢
  clear ew5
  have b5 : Below w3.heap.size w3 w5 := hb4.trans (aw5.mono hb4.size)
  have hv1 := box_keep HX1.out b5
  have hv2 := box_keep HX2.out b5
  have hv3 := box_keep HX3.out b5
  obtain ⟨go, hgo⟩ : ∃ go, go = w4.heap.size := ⟨_, rfl⟩
  rw [← hgo] at hx5 ⊢
  have hgo5 : go < w5.heap.size := by rw [hgo, zw5]; omega
  have hgo3 : w3.heap.size ≤ go := by rw [hgo]; exact hb4.size
  have HX5 := Lib.hid hx5
  have HV1 := Lib.hid hv1
  have HV2 := Lib.hid hv2
  have HV3 := Lib.hid hv3
  have HB5 := Lib.hid b5
  have HT5 := Lib.hid (HT3.out.below b5)
  have HR5 := Lib.hid (HR3.out.below b5)
  have HQ5 := Lib.hid (hr4.below aw5)
  obtain ⟨K, hK⟩ : ∃ K, K = kr + k := ⟨_, rfl⟩
  have HKK := Lib.hid hK
  obtain ⟨y0', _, _, _⟩ := box4 hv2
  clear b5 hv1 hv2 hv3 hx5 hb4 hr4 aw5 zw5 hgo hK HX1 HX2 HX3 HT3 HR3 x0 x1 x2 y0 y1 y2 y3
  go_wp2_with fail
  clear y0'
  have hcs5 : ∀ wr, Fr (fun kk => kk = go) w5 wr → TmsAt wr A n c l k ∧ RatAt wr br r ∧ RatAt wr b4 (r * q) := fun wr hf => by
    have hty := typ_of HX5.out (by decide)
    exact ⟨HT5.out.fr hf hty, HR5.out.frB hf hty, HQ5.out.frB hf hty⟩
  have HCS5 := Lib.hid hcs5
  clear hcs5
  go_loopw [16] (fun x wr => ∃ (i : Nat) (lo : List TB) (A' : Option Addr) (c' : Nat), i ≤ n ∧ x = .int .i64 i ∧ wr.heap[go]? = some (.cells #[.slice A' lo.length c', .bool (ratNeg (r * q)), .slice b4.A b4.n b4.c, .slice b4.A2 b4.n2 b4.c2] 35 (0, 0)) ∧ COut w5 wr (.slice A' lo.length c') lo K ∧ tmsOf lo = scT r ((tmsOf l).take i) ∧ lo.length = i ∧ Fr (fun kk => kk = go) w5 wr) (fun x _ => n - (intOf x).toNat)
  case atStart => exact ⟨0, [], none, 0, Nat.zero_le _, by first | rfl | go_num, HX5.out, ⟨World.ownsRow_nil _ _ _ _, by simp [Value.ownBlock], by simp⟩, by simp [tmsOf, scT], rfl, Fr.refl _ _⟩
  case round =>
    obtain ⟨i, lo, A', c', hin, rfl, hxo, hco, hlo, hll, hf⟩ := hrel
    obtain ⟨w6, rfl⟩ : ∃ x, x = wr := ⟨_, rfl⟩
    have HXO := Lib.hid hxo
    have HCO := Lib.hid hco
    have HLO := Lib.hid hlo
    have HLL := Lib.hid hll
    have HF := Lib.hid hf
    clear hxo hco hlo hll hf
    by_cases hlt : i < n
    · obtain ⟨ht6, hr6, hq6⟩ := HCS5.out w6 HF.out
      obtain ⟨g3, o3, t, ea, hti, y0, y1, y2, y3⟩ := ht6.rd.at4 ht6.len hlt
      subst ea
      have HTI := Lib.hid hti
      have HOK := Lib.hid (ht6.each t (List.mem_of_getElem? hti))
      have HR6 := Lib.hid hr6
      have b0 : (0 : Int) ≤ (i : Int) := by omega
      clear hti ht6 hr6 hq6
      go_upto_region 5 with fail
      have hxt := heap_alloc_new w6 (.cells #[.int .i64 t.2.1, .bool (ratNeg t.2.2), .slice t.1.A t.1.n t.1.c, .slice t.1.A2 t.1.n2 t.1.c2] 70)
      have zw7 : (w6.alloc (.cells #[.int .i64 t.2.1, .bool (ratNeg t.2.2), .slice t.1.A t.1.n t.1.c, .slice t.1.A2 t.1.n2 t.1.c2] 70)).heap.size = w6.heap.size + 1 := by simp
      have aw7 := (Below.refl w6.heap.size w6).alloc (Nat.le_refl _) (.cells #[.int .i64 t.2.1, .bool (ratNeg t.2.2), .slice t.1.A t.1.n t.1.c, .slice t.1.A2 t.1.n2 t.1.c2] 70)
      obtain ⟨w7, ew7⟩ : ∃ x, x = w6.alloc (.cells #[.int .i64 t.2.1, .bool (ratNeg t.2.2), .slice t.1.A t.1.n t.1.c, .slice t.1.A2 t.1.n2 t.1.c2] 70) := ⟨_, rfl⟩
      rw [← ew7] at hxt zw7 aw7 ⊢
      clear ew7
      obtain ⟨gt, hgt⟩ : ∃ x, x = w6.heap.size := ⟨_, rfl⟩
      rw [← hgt] at hxt ⊢
      have hco7 := HCO.out.below aw7
      have hnw : ∀ kk, ownS (.slice A' lo.length c') kk → kk ≠ go ∧ kk ≠ gt ∧ kk ≠ w.heap.size := by
        intro kk hkk
        refine ⟨fun e => ?_, fun e => ?_, fun e => ?_⟩
        · subst e
          exact own_type HCO.out.own HXO.out (by decide) hkk
        · have := (own_lt HCO.out.own hkk).2
          omega
        · have h1 := HCO.out.new kk hkk
          have h2 := HB5.out.size
          have h3 := HZ3.out
          omega
      have hxo7 := box_keep HXO.out aw7
      have hrb7 := box_keep ((HF.out.block w.heap.size (by have := HB5.out.size; have := HZ3.out; omega) (by have := HZ3.out; omega)).trans HV1.out) aw7
      have hcs7 : ∀ W', Fr (ownS (.slice A' lo.length c')) w7 W' → (W'.cell? ⟨go, 0, none⟩ = some (.slice A' lo.length c')) ∧ (W'.cell? ⟨gt, 0, none⟩ = some (.int .i64 t.2.1) ∧ W'.cell? ⟨gt, 1, none⟩ = some (.bool (ratNeg t.2.2)) ∧ W'.cell? ⟨gt, 2, none⟩ = some (.slice t.1.A t.1.n t.1.c) ∧ W'.cell? ⟨gt, 3, none⟩ = some (.slice t.1.A2 t.1.n2 t.1.c2)) ∧ W'.cell? ⟨w.heap.size, 0, none⟩ = some (.bool s2) ∧ W'.cell? ⟨w.heap.size, 1, none⟩ = some (.slice br.A br.n br.c) ∧ W'.cell? ⟨w.heap.size, 2, none⟩ = some (.slice br.A2 br.n2 br.c2) := fun W' hf => by
        have e1 := (hf.block go (lt_of_blk hxo7) (fun h => (hnw go h).1 rfl)).trans hxo7
        have e2 := (hf.block gt (lt_of_blk hxt) (fun h => (hnw gt h).2.1 rfl)).trans hxt
        have e3 := (hf.block w.heap.size (lt_of_blk hrb7) (fun h => (hnw _ h).2.2 rfl)).trans hrb7
        exact ⟨cell_of_blk e1 0, box4 e2, boxk e3⟩
      have hml := fun W (hb : Below w7.heap.size w7 W) => rmul_any br t.1 r t.2.2 W ((HR6.out.below aw7).below hb) ((HOK.out.1.below aw7).below hb) (kr + k) (by omega) (HRL.out.up (by omega)) (HOK.out.2.1.up (by omega))
      unfold RB.val at hml
      rw [← HS2.out] at hml
      have HCS7 := Lib.hid hcs7
      have HML7 := Lib.hid hml
      have HCO7 := Lib.hid hco7
      have HXO7 := Lib.hid hxo7
      have HF7 := Lib.hid (HF.out.trans (Fr.of_below (S := fun kk => kk = go) aw7) (fun b hb => .inl hb))
      have HA7 := Lib.hid aw7
      have HNW := Lib.hid hnw
      obtain ⟨i0, hi, hz0, hz1, hz2⟩ := info_parts info_term
      have hll : lo.length ≤ 30 := by have := HLL.out; omega
      clear hcs7 hml hco7 hxo7 hrb7 hxt aw7 zw7 hgt hnw y0 y1 y2 y3
      have hS := HCS7.out w7.drew (Fr.refl _ _).drew
      refine wp_region_E 12 (fun W' => (W'.cell? ⟨go, 0, none⟩ = some (.slice A' lo.length c')) ∧ (W'.cell? ⟨gt, 0, none⟩ = some (.int .i64 t.2.1) ∧ W'.cell? ⟨gt, 1, none⟩ = some (.bool (ratNeg t.2.2)) ∧ W'.cell? ⟨gt, 2, none⟩ = some (.slice t.1.A t.1.n t.1.c) ∧ W'.cell? ⟨gt, 3, none⟩ = some (.slice t.1.A2 t.1.n2 t.1.c2)) ∧ W'.cell? ⟨w.heap.size, 0, none⟩ = some (.bool s2) ∧ W'.cell? ⟨w.heap.size, 1, none⟩ = some (.slice br.A br.n br.c) ∧ W'.cell? ⟨w.heap.size, 2, none⟩ = some (.slice br.A2 br.n2 br.c2)) (by kernel_rfl) ?_
      refine wpAnyE_take (i := 0) (v := ?_) (by kernel_rfl) rfl (by kernel_rfl) (by kernel_rfl) (by kernel_rfl) (fun _ _ _ h => h) (by rfl) ?hy0 hS ?rest0
      case hy0 => (intro w hSw; (try dsimp only at hSw); go_simp <;> with_reducible rfl)
      case rest0 =>
      simp only [Act.put, List.setIfInBounds_toArray, List.set_cons_zero, List.set_cons_succ]
      refine wpAnyE_take (i := 1) (v := ?_) (by kernel_rfl) rfl (by kernel_rfl) (by kernel_rfl) (by kernel_rfl) (fun _ _ _ h => h) (by rfl) ?hy1 hS ?rest1
      case hy1 => (intro w hSw; (try dsimp only at hSw); go_simp <;> with_reducible rfl)
      case rest1 =>
      simp only [Act.put, List.setIfInBounds_toArray, List.set_cons_zero, List.set_cons_succ]
      refine wpAnyE_take (i := 2) (v := ?_) (by kernel_rfl) rfl (by kernel_rfl) (by kernel_rfl) (by kernel_rfl) (fun _ _ _ h => h) (by rfl) ?hy2 hS ?rest2
      case hy2 => (intro w hSw; (try dsimp only at hSw); go_simp <;> with_reducible rfl)
      case rest2 =>
      simp only [Act.put, List.setIfInBounds_toArray, List.set_cons_zero, List.set_cons_succ]
      refine wpAnyE_take (i := 3) (v := ?_) (by kernel_rfl) rfl (by kernel_rfl) (by kernel_rfl) (by kernel_rfl) (fun _ _ _ h => h) (by rfl) ?hy3 hS ?rest3
      case hy3 => (intro w hSw; (try dsimp only at hSw); go_simp <;> with_reducible rfl)
      case rest3 =>
      simp only [Act.put, List.setIfInBounds_toArray, List.set_cons_zero, List.set_cons_succ]
      refine wpAnyE_take (i := 4) (v := ?_) (by kernel_rfl) rfl (by kernel_rfl) (by kernel_rfl) (by kernel_rfl) (fun _ _ _ h => h) (by rfl) ?hy4 hS ?rest4
      case hy4 => (intro w hSw; (try dsimp only at hSw); go_simp <;> with_reducible rfl)
      case rest4 =>
      simp only [Act.put, List.setIfInBounds_toArray, List.set_cons_zero, List.set_cons_succ]
      refine wpAnyE_take (i := 5) (v := ?_) (by kernel_rfl) rfl (by kernel_rfl) (by kernel_rfl) (by kernel_rfl) (fun _ _ _ h => h) (by rfl) ?hy5 hS ?rest5
      case hy5 => (intro w hSw; (try dsimp only at hSw); go_simp <;> with_reducible rfl)
      case rest5 =>
      simp only [Act.put, List.setIfInBounds_toArray, List.set_cons_zero, List.set_cons_succ]
      refine wpAnyE_take (i := 6) (v := ?_) (by kernel_rfl) rfl (by kernel_rfl) (by kernel_rfl) (by kernel_rfl) (fun _ _ _ h => h) (by rfl) ?hy6 hS ?rest6
      case hy6 => (intro w hSw; (try dsimp only at hSw); go_simp <;> with_reducible rfl)
      case rest6 =>
      simp only [Act.put, List.setIfInBounds_toArray, List.set_cons_zero, List.set_cons_succ]
      refine wpAnyE_one (i := 7) (by kernel_rfl) rfl (fun KK hKK => ?_)
      have HKK7 := Lib.hid hKK
      clear hKK
      go_simp
      go_at_call 34
      refine (HML7.out _ (below_drew2 (Below.refl _ _))).mono ?_
      rintro e w8 ⟨b8, rfl, hr8, hb8⟩
      have c8 : Below w7.heap.size w7 w8 := (below_drew2 (Below.refl _ _)).trans (hb8.mono (Nat.le_refl _))
      have hS8 := HCS7.out w8 (Fr.of_below c8)
      have HR8 := Lib.hid hr8
      clear hr8 hb8 hS
      refine HKK7.out _ _ (.inr hS8) ?_
      clear HKK7
      try simp only [Act.put, List.setIfInBounds_toArray, List.set_cons_zero, List.set_cons_succ]
      refine wpAnyE_take (i := 8) (v := ?_) (by kernel_rfl) rfl (by kernel_rfl) (by kernel_rfl) (by kernel_rfl) (fun _ _ _ h => h) (by rfl) ?hy8 hS8 ?rest8
      case hy8 => (intro w hSw; (try dsimp only at hSw); go_simp <;> with_reducible rfl)
      case rest8 =>
      simp only [Act.put, List.setIfInBounds_toArray, List.set_cons_zero, List.set_cons_succ]
      refine wpAnyE_one (i := 9) (by kernel_rfl) rfl (fun KK hKK => ?_)
      have HKK9 := Lib.hid hKK
      clear hKK
      go_simp
      have c8a := c8.alloc c8.size (.cells #[.int .i64 t.2.1, .bool (ratNeg (r * t.2.2)), .slice b8.A b8.n b8.c, .slice b8.A2 b8.n2 b8.c2] 70)
      have hS9 := HCS7.out _ (Fr.of_below c8a)
      refine HKK9.out _ _ (.inr hS9) ?_
      clear HKK9
      try simp only [Act.put, List.setIfInBounds_toArray, List.set_cons_zero, List.set_cons_succ]
      refine wpAnyE_one (i := 10) (by kernel_rfl) rfl (fun KK hKK => ?_)
      have HKK10 := Lib.hid hKK
      clear hKK
      have hco8 := HCO7.out.below c8
      refine stepS w8 4 #[.int .i64 t.2.1, .bool (ratNeg (r * t.2.2)), .slice b8.A b8.n b8.c, .slice b8.A2 b8.n2 b8.c2] 70 rfl (.tmp 21) (.tmp 29) 30 rfl i0 _ 64 Tryz.underlying30 hi hz0 hz1 hz2 rfl (by decide) (by decide) rfl (.slice A' lo.length c') lo.length (tmsL lo) rfl hco8.own rfl (tmL_one (b8, (t.2.1, r * t.2.2))) (by omega) ?_
      intro v9 w9 ho9 hf9 hk9
      have hok : TOk w8 K (b8, (t.2.1, r * t.2.2)) := ⟨HR8.out, by rw [HKK.out]; exact mul_le HRL.out HOK.out.2.1, HOK.out.2.2⟩
      have hw58 : w5.heap.size ≤ w8.heap.size := by
        have h1 := HF7.out.size
        have h2 := c8.size
        omega
      have hco9 := hco8.app hw58 hok ho9 hf9 hk9
      obtain ⟨A9, c9, rfl, _⟩ := ownsRow_form hco9.own
      rw [List.length_append, List.length_singleton] at hco9 hk9 ⊢
      have hf89 := (Fr.of_below (S := ownS (.slice A' lo.length c')) c8).trans hf9 (fun b hb => .inl hb)
      have hS10 := HCS7.out w9 hf89
      refine HKK10.out _ _ (.inr hS10) ?_
      clear HKK10
      try simp only [Act.put, List.setIfInBounds_toArray, List.set_cons_zero, List.set_cons_succ]
      refine wpAnyE_take (i := 11) (v := ?_) (by kernel_rfl) rfl (by kernel_rfl) (by kernel_rfl) (by kernel_rfl) (fun _ _ _ h => h) (by rfl) ?hy11 hS10 ?rest11
      case hy11 => (intro w hSw; (try dsimp only at hSw); go_simp <;> with_reducible rfl)
      case rest11 =>
      simp only [Act.put, List.setIfInBounds_toArray, List.set_cons_zero, List.set_cons_succ]
      refine wpAnyE_one (i := 12) (by kernel_rfl) rfl (fun KK hKK => ?_)
      have HKK12 := Lib.hid hKK
      clear hKK
      have hx9 := (hf89.block go (lt_of_blk HXO7.out) (fun h => (HNW.out go h).1 rfl)).trans HXO7.out
      obtain ⟨p0, p1, p2, p3⟩ := box4 hx9
      have z0 := frozen_of_blk hx9 0
      have HX9 := Lib.hid hx9
      have HCO9 := Lib.hid hco9
      have hfr9 : Fr (fun kk => kk = go) w5 w9 := (HF7.out.trans (Fr.of_below (S := fun kk => kk = go) c8) (fun b hb => .inl hb)).trans hf9 (fun b hb => .inr (HCO7.out.new b hb))
      have HF9 := Lib.hid hfr9
      clear hx9 hco9 hco8 hf9 hf89 ho9 hk9 hS10 hS9 hS8 hok hw58 c8a hfr9
      go_simp
      refine HKK12.out _ _ (.inl rfl) ?_
      clear HKK12
      refine wpAnyE_done (by kernel_rfl) ?_ _
      go_wp2_with fail
      go_roundw
      case rel =>
        refine ⟨i + 1, lo ++ [(b8, (t.2.1, r * t.2.2))], A9, c9, by omega, by go_num, ?_, ?_, ?_, by rw [List.length_append, List.length_singleton, HLL.out], fr_set HF9.out (.inl rfl)⟩
        · rw [List.length_append, List.length_singleton]
          exact set_blk HX9.out 0 _
        · rw [List.length_append, List.length_singleton]
          exact HCO9.out.frE (fr_set (Fr.refl _ _) (.inl rfl)) HX9.out (by decide)
        · rw [tmsOf_app, HLO.out, List.take_add_one, show (tmsOf l)[i]? = some t.2 by unfold tmsOf; rw [List.getElem?_map, HTI.out]; rfl]
          simp [scT, tmsOf]
      case measure => simp [intOf]; omega
    · obtain rfl : i = n := by omega
      obtain ⟨ht6, hr6, hq6⟩ := HCS5.out w6 HF.out
      have hlen6 := ht6.len
      obtain ⟨Ax, cx, ex, htx⟩ := TmsAt.of_own HCO.out.own HCO.out.each
      injection ex with e1 _ e3
      subst e1; subst e3
      have hll := HLL.out
      have hca := canon_any A' lo.length c' b4 lo (r * q) K w6 htx (by omega) (by rw [HKK.out]; exact hk)
      have hx3 := (HF.out.block (w.heap.size + 1 + 1) (by have := HB5.out.size; have := HZ3.out; omega) (by have := HZ3.out; omega)).trans HV3.out
      have hxo := HXO.out
      obtain ⟨y0, y1, y2, y3⟩ := box4 hxo
      have HCA := Lib.hid hca
      have HX3 := Lib.hid hx3
      have HQ6 := Lib.hid hq6
      have HLN := Lib.hid hlen6
      have hlt2 : ¬ (i < i) := by omega
      clear hca hx3 hq6 ht6 hr6 htx hxo hll hlen6
      go_wp2_with (go_at_call 24; refine HCA.out.mono ?_; rintro e w7 ⟨A7, n7, c7, l7, ls7, rfl, hp7, hg7, ht7, hn7, hb7⟩; have hx7 := box_keep HX3.out hb7; obtain ⟨p0, p1, p2, p3⟩ := box4 hx7; have z0 := frozen_of_blk hx7 0; have z1 := frozen_of_blk hx7 1; have z2 := frozen_of_blk hx7 2; have z3 := frozen_of_blk hx7 3; have HX7 := Lib.hid hx7; have HP7 := Lib.hid hp7; have HG7 := Lib.hid hg7; have HT7 := Lib.hid ht7; have HN7 := Lib.hid hn7; have HB7 := Lib.hid hb7; clear hx7 hp7 hg7 ht7 hn7 hb7)
      refine bodyPost_ret (v := .agg #[.slice A7 n7 c7, .bool (ratNeg (r * q)), .slice b4.A b4.n b4.c, .slice b4.A2 b4.n2 b4.c2]) (by simp [results, Tryz.results19, go_sem, p0, p1, p2, p3]) rfl ?_
      have hbel : Below w.heap.size w w7 := by
        have h1 : Below w3.heap.size w3 w6 := (HB5.out.trans (HF.out.below (B := w3.heap.size) HB5.out.size (fun b hb => by rw [hb]; exact hgo3)))
        exact (HB3.out.trans (h1.mono HB3.out.size)).trans (HB7.out.mono (Nat.le_trans HB3.out.size h1.size))
      have hfr := store4_fr w7 (w.heap.size + 1 + 1) A7 n7 c7 (ratNeg (r * q)) b4
      have hty := typ_of HX7.out (by decide)
      refine ⟨lo, ?_, A7, n7, c7, b4, l7, ls7, rfl, HP7.out.map _, HG7.out, ?_, (HQ6.out.below HB7.out).frB hfr hty, HQ.out, ?_, store4_bel hbel (by omega) _ _ _ _ _⟩
      · rw [HLO.out, List.take_of_length_le (by rw [tmsOf_len, HLN.out]; exact Nat.le_refl _)]
      · have := HT7.out.fr hfr hty
        rw [HKK.out] at this
        exact this
      · have := HN7.out
        have := HLL.out
        omega
end Go.Proofs.YtlbbbafehhdpnaaGreatDoor
