/- Contracts of package rat: Parts, KeyOf. -/
import Derived.Test.YtlbbbafehhdpnaaGreatDoorRatE
import Derived.Test.YtlbbbafehhdpnaaGreatDoorLongRow
namespace Go.Proofs.YtlbbbafehhdpnaaGreatDoor
open Go.RowKit
set_option linter.unusedVariables false
set_option linter.unusedSimpArgs false


set_option maxRecDepth 100000 in
set_option maxHeartbeats 4000000 in
theorem parts_any (b1 : RB) (q : Rat) (w : World) (h1 : RatAt w b1 q) (z : Nat) (hz : z ≤ 1000000) (l1 : RatLe q z) :
    Calls Tryz.prog 67 #[b1.val (ratNeg q)] w fun e w' => ∃ A' n' c' A3 n3 c3, e = .returned (.tuple #[.bool (ratNeg q), .slice A' n' c', .slice A3 n3 c3]) ∧ Num w' A' n' c' (limbs q.num.natAbs) ∧ Num w' A3 n3 c3 (limbs q.den) ∧ Below w.heap.size w w' := by
  obtain ⟨A, n, c, A2, n2, c2⟩ := b1
  have hba := fun W h => below_any (ratNeg q) ⟨A, n, c, A2, n2, c2⟩ q W h
  have hpn := l1.num
  have hpd := l1.den
  have hn1 := h1.num
  simp only at hn1
  unfold RB.val
  unfold RB.val at hba
  simp only at hba ⊢
  generalize ratNeg q = s1 at *
  generalize q.num.natAbs = pa at *
  generalize q.den = pd at *
  have e1 : (limbs pa).length ≤ 100000000 := by omega
  have e3 : (limbs pd).length ≤ 100000000 := by omega
  have HN1 := Lib.hid hn1
  have HBA := Lib.hid hba
  have E1 := Lib.hid e1
  have E3 := Lib.hid e3
  clear hn1 hba e1 e3 hpn hpd l1
  go_enter Tryz.func67, Tryz.ntmps67
  go_upto_region 1 with fail
  have hx1 := heap_alloc_new w (.cells #[.bool s1, .slice A n c, .slice A2 n2 c2] 33)
  have hw1 : (w.alloc (.cells #[.bool s1, .slice A n c, .slice A2 n2 c2] 33)).heap.size = w.heap.size + 1 := by simp
  have hbw := (Below.refl w.heap.size w).alloc (Nat.le_refl _) (.cells #[.bool s1, .slice A n c, .slice A2 n2 c2] 33)
  obtain ⟨wk, hwk⟩ : ∃ x, x = w.alloc (.cells #[.bool s1, .slice A n c, .slice A2 n2 c2] 33) := ⟨_, rfl⟩
  rw [← hwk] at hx1 hbw hw1 ⊢
  have h1k := h1.below hbw
  clear hwk h1
  have HX1 := Lib.hid hx1
  have HBZ := Lib.hid hbw
  have H1 := Lib.hid h1k
  have hcs : ∀ W', Below wk.heap.size wk W' → W'.cell? ⟨w.heap.size, 0, none⟩ = some (.bool s1) ∧ W'.cell? ⟨w.heap.size, 1, none⟩ = some (.slice A n c) ∧ W'.cell? ⟨w.heap.size, 2, none⟩ = some (.slice A2 n2 c2) := fun W' h => Box.of (box_keep HX1.out h)
  have HCS := Lib.hid hcs
  clear hcs hx1 hbw h1k hw1
  have tok : True := trivial
  go_region_held3 (fun W' => W'.cell? ⟨w.heap.size, 0, none⟩ = some (.bool s1) ∧ W'.cell? ⟨w.heap.size, 1, none⟩ = some (.slice A n c) ∧ W'.cell? ⟨w.heap.size, 2, none⟩ = some (.slice A2 n2 c2)) ((refine HCS.out _ ?_; first | with_reducible exact b27 | with_reducible exact b26 | with_reducible exact b25 | with_reducible exact below_drew2 (Below.refl _ _) | with_reducible exact Below.refl _ _)) (first | (go_at_call 35; have _t := tok; refine (norm_num (HN1.out.below (below_drew2 HBZ.out)) E1.out).mono ?_; rintro e w25 ⟨A25, n25, c25, rfl, h25, b25'⟩; have b25 := (below_drew2 (Below.refl wk.heap.size wk)).trans b25'; have H25 := Lib.hid h25; have tok1 : True := trivial; clear tok _t h25) | (go_at_call 40; have _t := tok1; refine (HBA.out _ (H1.out.below b25)).mono ?_; rintro e w26 ⟨A26, n26, c26, rfl, h26, b26'⟩; have b26 := b25.trans (b26'.mono b25.size); have H26 := Lib.hid h26; have tok2 : True := trivial; clear tok1 _t h26) | (go_at_call 35; have _t := tok2; refine (norm_num H26.out E3.out).mono ?_; rintro e w27 ⟨A27, n27, c27, rfl, h27, b27'⟩; have b27 := b26.trans (b27'.mono b26.size); have H27 := Lib.hid h27; clear tok2 _t h27))
  all_goals
    go_wp2_with fail
    go_ret3
    have h5 := (H25.out.below b26').below b27'
    have h7 := H27.out
    rw [lv_limbs] at h5 h7
    exact ⟨_, _, _, _, _, _, rfl, h5, h7, HBZ.out.trans (b27.mono HBZ.out.size)⟩
def keyStr (N : Nat) : ByteArray := strOf ((byts N).map fun (u : Nat) => (u : Int))
theorem key_conv {w : World} {A : Option Addr} {n c : Nat} {N : Nat} (hl : (byts N).length = n) (hr : Rd w 1 A n (by8 (byts N))) : (convert 110 9 (.slice A n c)).run Tryz.prog w = .ok (.string (keyStr N)) w := by
  rw [by8_bytes] at hr
  refine run_str 110 9 5 Tryz.underlying110 Tryz.underlying5 Tryz.underlying9 (by rw [List.length_map]; exact hl) hr ?_
  intro x hx
  obtain ⟨u, hu, rfl⟩ := List.mem_map.1 hx
  have := byts_small N u hu
  omega
theorem key_inj {N M : Nat} (h : keyStr N = keyStr M) : N = M := by
  have h1 : ((byts N).map fun (u : Nat) => UInt8.ofNat u) = ((byts M).map fun (u : Nat) => UInt8.ofNat u) := by
    unfold keyStr strOf at h
    have := congrArg (fun b => b.data.toList) h
    simp only [List.toList_toArray, List.map_map] at this
    exact this
  have h2 : ∀ l m : List Nat, small8 l → small8 m → (l.map fun (u : Nat) => UInt8.ofNat u) = (m.map fun (u : Nat) => UInt8.ofNat u) → l = m := by
    intro l
    induction l with
    | nil => intro m _ _ e; cases m <;> simp_all
    | cons a l ih =>
      intro m hl hm e
      cases m with
      | nil => simp at e
      | cons b m =>
        obtain ⟨a1, a2⟩ := small8_cons.1 hl
        obtain ⟨b1, b2⟩ := small8_cons.1 hm
        simp only [List.map_cons, List.cons.injEq] at e
        have e0 := congrArg UInt8.toNat e.1
        rw [UInt8.toNat_ofNat', UInt8.toNat_ofNat'] at e0
        rw [ih m a2 b2 e.2, show a = b by omega]
  have h3 := h2 _ _ (byts_small N) (byts_small M) h1
  have h4 := congrArg bv h3
  rwa [bv_byts, bv_byts] at h4
theorem boxk {w : World} {g : Nat} {a b c : Value} {t : TypeId} (h : w.heap[g]? = some (.cells #[a, b, c] t (0, 0))) : w.cell? ⟨g, 0, none⟩ = some a ∧ w.cell? ⟨g, 1, none⟩ = some b ∧ w.cell? ⟨g, 2, none⟩ = some c :=
  ⟨cell_of_blk h 0, cell_of_blk h 1, cell_of_blk h 2⟩
def keyVal (q : Rat) : Value := .agg #[.bool (ratNeg q), .string (keyStr q.num.natAbs), .string (keyStr q.den)]
set_option maxRecDepth 100000 in
set_option maxHeartbeats 4000000 in
theorem key_any (b1 : RB) (q : Rat) (w : World) (h1 : RatAt w b1 q) (z : Nat) (hz : z ≤ 1000000) (l1 : RatLe q z) :
    Calls Tryz.prog 33 #[b1.val (ratNeg q)] w fun e w' => e = .returned (keyVal q) ∧ Below w.heap.size w w' := by
  obtain ⟨A, n, c, A2, n2, c2⟩ := b1
  have hba := fun W h => below_any (ratNeg q) ⟨A, n, c, A2, n2, c2⟩ q W h
  have hpn := l1.num
  have hpd := l1.den
  have hn1 := h1.num
  simp only at hn1
  unfold RB.val keyVal
  unfold RB.val at hba
  simp only at hba ⊢
  generalize ratNeg q = s1 at *
  generalize q.num.natAbs = pa at *
  generalize q.den = pd at *
  have e1 : (limbs pa).length ≤ 100000000 := by omega
  have e3 : (limbs pd).length ≤ 100000000 := by omega
  have HN1 := Lib.hid hn1
  have HBA := Lib.hid hba
  have E1 := Lib.hid e1
  have E3 := Lib.hid e3
  clear hn1 hba e1 e3 hpn hpd l1
  go_enter Tryz.func33, Tryz.ntmps33
  go_upto_region 1 with fail
  have hx1 := heap_alloc_new w (.cells #[.bool s1, .slice A n c, .slice A2 n2 c2] 33)
  have hw1 : (w.alloc (.cells #[.bool s1, .slice A n c, .slice A2 n2 c2] 33)).heap.size = w.heap.size + 1 := by simp
  have hbw := (Below.refl w.heap.size w).alloc (Nat.le_refl _) (.cells #[.bool s1, .slice A n c, .slice A2 n2 c2] 33)
  obtain ⟨wk, hwk⟩ : ∃ x, x = w.alloc (.cells #[.bool s1, .slice A n c, .slice A2 n2 c2] 33) := ⟨_, rfl⟩
  rw [← hwk] at hx1 hbw hw1 ⊢
  have h1k := h1.below hbw
  clear hwk h1
  have hr3 := heap_alloc_new wk (.cells #[.bool false, .string ⟨#[]⟩, .string ⟨#[]⟩] 62)
  have hx1' := box_keep hx1 ((Below.refl _ _).alloc (Nat.le_refl _) (.cells #[.bool false, .string ⟨#[]⟩, .string ⟨#[]⟩] 62))
  have hbk := hbw.alloc hbw.size (.cells #[.bool false, .string ⟨#[]⟩, .string ⟨#[]⟩] 62)
  have h1z := h1k.alloc (.cells #[.bool false, .string ⟨#[]⟩, .string ⟨#[]⟩] 62)
  obtain ⟨wz, hwz⟩ : ∃ x, x = wk.alloc (.cells #[.bool false, .string ⟨#[]⟩, .string ⟨#[]⟩] 62) := ⟨_, rfl⟩
  rw [hw1] at hr3
  rw [← hwz] at hr3 hx1' hbk h1z ⊢
  have HX1 := Lib.hid hx1'
  have HR3 := Lib.hid hr3
  have HBZ := Lib.hid hbk
  have H1 := Lib.hid h1z
  clear hwz hx1 hx1' hr3 hbk h1k h1z hbw hw1
  have hcs : ∀ W', Fr (fun b => b = w.heap.size + 1) wz W' → W'.cell? ⟨w.heap.size, 0, none⟩ = some (.bool s1) ∧ W'.cell? ⟨w.heap.size, 1, none⟩ = some (.slice A n c) ∧ W'.cell? ⟨w.heap.size, 2, none⟩ = some (.slice A2 n2 c2) := fun W' h => Box.of ((h.block _ (lt_of_blk HX1.out) (by omega)).trans HX1.out)
  have hnz : ∀ W', Below wz.heap.size wz W' → ∀ b i k, b = w.heap.size + 1 → W'.cell? ⟨b, i, none⟩ ≠ some (.int .u32 k) := fun W' h b i k hb e => by
    subst hb
    rw [cell_of_blk (box_keep HR3.out h) i] at e
    exact no_int3 _ _ _ (by simp) (by simp) (by simp) i k e
  have HCS := Lib.hid hcs
  have HNZ := Lib.hid hnz
  clear hcs hnz
  have tok : True := trivial
  obtain ⟨x0, x1, x2⟩ := HCS.out wz (Fr.refl _ _)
  go_region_law (first | (go_simp; go_at_call 51; have _t := tok; refine (lpack_num (HN1.out.below (below_drew2 HBZ.out)) E1.out).mono ?_; rw [lv_limbs]; rintro e w25 ⟨A25, n25, c25, rfl, hl25, _, _, hr25, b25'⟩; have b25 := (below_drew2 (Below.refl wz.heap.size wz)).trans b25'; have hcv25 := key_conv (c := c25) hl25 hr25; have HL25 := Lib.hid hl25; have HR25 := Lib.hid hr25; have tok1 : True := trivial; clear tok _t hl25 hr25 x0 x1 x2; obtain ⟨x0, x1, x2⟩ := HCS.out w25 (Fr.of_below b25)) | (go_simp; go_at_call 40; have _t := tok1; refine (HBA.out _ (H1.out.below b25)).mono ?_; rintro e w26 ⟨A26, n26, c26, rfl, h26, b26'⟩; have b26 := b25.trans (b26'.mono b25.size); have H26 := Lib.hid h26; have hcv26 := key_conv (c := c25) HL25.out (HR25.out.below b26'); have tok2 : True := trivial; clear tok1 _t h26 x0 x1 x2; obtain ⟨x0, x1, x2⟩ := HCS.out w26 (Fr.of_below b26)) | (go_simp; go_at_call 51; have _t := tok2; refine (lpack_num H26.out E3.out).mono ?_; rw [lv_limbs]; rintro e w27 ⟨A27, n27, c27, rfl, hl27, _, _, hr27, b27'⟩; have b27 := b26.trans (b27'.mono b26.size); have hcv27 := key_conv (c := c27) hl27 hr27; have hcv28 := key_conv (c := c25) HL25.out ((HR25.out.below b26').below b27'); obtain ⟨r0, r1, r2⟩ := boxk (box_keep HR3.out b27); have s0 := frozen_of_blk (box_keep HR3.out b27) 0; have s1' := frozen_of_blk (box_keep HR3.out b27) 1; have s2' := frozen_of_blk (box_keep HR3.out b27) 2; have HB27 := Lib.hid (HBZ.out.trans (b27.mono HBZ.out.size)); clear tok2 _t hl27 hr27 x0 x1 x2; obtain ⟨x0, x1, x2⟩ := HCS.out w27 (Fr.of_below b27)))
  all_goals
    go_wp2_with fail
    refine bodyPost_ret (v := .agg #[.bool s1, .string (keyStr pa), .string (keyStr pd)]) (by simp [results, Tryz.results33, go_sem, r0, r1, r2]) rfl ?_
    refine ⟨rfl, bl_set (bl_set (bl_set HB27.out ?_) ?_) ?_⟩
    all_goals
      simp
end Go.Proofs.YtlbbbafehhdpnaaGreatDoor

namespace Go.Proofs.YtlbbbafehhdpnaaGreatDoor
open Go.RowKit
set_option linter.unusedVariables false
set_option linter.unusedSimpArgs false


set_option maxRecDepth 100000 in
theorem int_one (w : World) :
    Calls Tryz.prog 10 #[.int .i64 1] w fun e w' => ∃ b : RB, e = .returned (b.val (ratNeg 1)) ∧ RatAt w' b 1 ∧ Below w.heap.size w w' := by
  have hr3 := heap_alloc_new w (.cells #[.bool false, .slice none 0 0, .slice none 0 0] 33)
  have hbw := (Below.refl w.heap.size w).alloc (Nat.le_refl _) (.cells #[.bool false, .slice none 0 0, .slice none 0 0] 33)
  go_enter Tryz.func10, Tryz.ntmps10
  go_upto_region 1 with fail
  obtain ⟨wk, hwk⟩ : ∃ x, x = w.alloc (.cells #[.bool false, .slice none 0 0, .slice none 0 0] 33) := ⟨_, rfl⟩
  rw [← hwk] at hr3 hbw ⊢
  have hwd := word_any 1 wk (by decide)
  rw [show ((1 : Nat) : Int) = 1 from rfl] at hwd
  have HR3 := Lib.hid hr3
  have HBW := Lib.hid hbw
  clear hwk hr3 hbw
  go_wp2_with (go_at_call 20; refine hwd.mono ?_; clear hwd; rintro e w5 ⟨v5, rfl, ho5, b5⟩; obtain ⟨A5, c5, rfl, h5⟩ := Num.of (N := 0) ho5 (limbs_small _); obtain ⟨r0, r1, r2⟩ := Box.of (box_keep HR3.out b5); have s0 := frozen_of_blk (box_keep HR3.out b5) 0; have s1' := frozen_of_blk (box_keep HR3.out b5) 1; have s2' := frozen_of_blk (box_keep HR3.out b5) 2; have HB5 := Lib.hid (HBW.out.trans (b5.mono HBW.out.size)); have HK := Lib.hid (box_keep HR3.out b5))
  refine bodyPost_ret (v := .agg #[.bool false, .slice A5 (limbs 1).length c5, .slice none 0 0]) (by simp [results, Tryz.results10, go_sem, r0, r1, r2]) rfl ?_
  refine ⟨⟨A5, (limbs 1).length, c5, none, 0, 0⟩, rfl, ⟨?_, ?_⟩, bl_set (bl_set (bl_set HB5.out ?_) ?_) ?_⟩
  · refine h5.fr (S := fun b => b = w.heap.size) (fr_set (fr_set (fr_set (Fr.refl _ _) (.inl rfl)) (.inl rfl)) (.inl rfl)) ?_
    intro b i k hb e
    subst hb
    rw [cell_of_blk HK.out i] at e
    exact no_int3 _ _ _ (by simp) (by simp) (by simp) i k e
  · exact Num.nil_ _
  all_goals
    simp
def floorF (q : Rat) : Rat := mkRat (sgn (ratNeg q) (q.num.natAbs / q.den)) 1
def floorQ (q : Rat) : Rat := if ratNeg q = true ∧ 0 < q.num.natAbs % q.den then floorF q - 1 else floorF q
theorem floorF_at {w : World} {A : Option Addr} {n c : Nat} {q : Rat} (h : Num w A n c (limbs (q.num.natAbs / q.den))) : RatAt w ⟨A, n, c, none, 0, 0⟩ (floorF q) := by
  unfold floorF
  have h1 := mk_abs (ratNeg q) (q.num.natAbs / q.den) 1 (by decide)
  have h2 := mk_den (ratNeg q) (q.num.natAbs / q.den) 1 (by decide)
  rw [Nat.gcd_one_right, Nat.div_one] at h1
  rw [Nat.gcd_one_right] at h2
  refine ⟨by rw [h1]; exact h, ?_⟩
  unfold ratDen
  rw [if_pos (by rw [h2])]
  exact Num.nil_ _
theorem floorF_neg (q : Rat) : ratNeg (floorF q) = (ratNeg q && decide (0 < q.num.natAbs / q.den)) := by
  unfold floorF
  rw [mk_neg _ _ _ (by decide), Nat.gcd_one_right, Nat.div_one]
theorem one_le (k : Nat) (h : 1 ≤ k) : RatLe 1 k := by
  have e : (limbs 1).length = 1 := by rw [limbs_pos 1 (by decide), show 1 / 4294967296 = 0 by decide, limbs_zero]; rfl
  exact ⟨by rw [show (1 : Rat).num.natAbs = 1 by decide, e]; exact h, by rw [show (1 : Rat).den = 1 by decide, e]; exact h⟩
theorem floorF_le {q : Rat} {k : Nat} (h : RatLe q k) (h1 : 1 ≤ k) : RatLe (floorF q) k := by
  have hb := mk_bounds (ratNeg q) (q.num.natAbs / q.den) 1 (by decide) k (Nat.le_trans (limbs_len_mono _ _ (Nat.div_le_self _ _)) h.num) (one_le k h1).den
  exact ⟨hb.1, hb.2⟩
theorem floorQ_le {q : Rat} {k : Nat} (h : RatLe q k) (h1 : 1 ≤ k) : RatLe (floorQ q) (k + k + 1) := by
  unfold floorQ
  have hf := floorF_le h h1
  split
  · rw [Rat.sub_eq_add_neg]
    exact add_le hf (neg_le (one_le k h1))
  · exact ⟨by have := hf.num; omega, by have := hf.den; omega⟩
theorem dec_len0 {N n : Nat} (h : (limbs N).length = n) : decide (0 < N) = decide (0 < n) := by
  by_cases h0 : N = 0
  · subst h0
    rw [limbs_zero] at h
    simp at h
    subst h
    rfl
  · have := (limbs_top N h0).1
    rw [decide_eq_true (by omega), decide_eq_true (by omega)]
end Go.Proofs.YtlbbbafehhdpnaaGreatDoor
