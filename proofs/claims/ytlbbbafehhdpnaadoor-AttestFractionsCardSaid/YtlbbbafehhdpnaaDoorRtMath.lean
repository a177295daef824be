/- Texts of rational numbers as lists of bytes. No program in sight. -/
import Derived.Test.YtlbbbafehhdpnaaDoorRatMath
import Derived.Test.YtlbbbafehhdpnaaDoorDigGrow
import Derived.Lib.IndexMore
import Derived.Lib.Strings
import Derived.Test.YtlbbbafehhdpnaaDoorRatJ
import Derived.Test.YtlbbbafehhdpnaaDoorShelf2
namespace Go.Proofs.YtlbbbafehhdpnaaDoor
set_option linter.unusedVariables false
set_option linter.unusedSimpArgs false

def strB (l : List UInt8) : ByteArray := ⟨l.toArray⟩
def dg (N : Nat) : List UInt8 := (dec N).map fun d => UInt8.ofNat (48 + d)
theorem txt_dg (N : Nat) : txt (dec N) = strB (dg N) := rfl
theorem dg_byte (N : Nat) (b : UInt8) (h : b ∈ dg N) : 48 ≤ b.toNat ∧ b.toNat ≤ 57 := by
  obtain ⟨d, hd, rfl⟩ := List.mem_map.1 h
  have := dec_small N d hd
  rw [UInt8.toNat_ofNat']
  omega
theorem dg_ne (N : Nat) : dg N ≠ [] := fun e => dec_pos N (List.map_eq_nil_iff.1 e)
theorem dg_len (N : Nat) : (dg N).length = (dec N).length := List.length_map _
theorem strB_data (l : List UInt8) : (strB l).data.toList = l := by simp [strB]
theorem strB_size (l : List UInt8) : (strB l).size = l.length := by
  show l.toArray.size = _
  simp
theorem strB_append (a b : List UInt8) : strB a ++ strB b = strB (a ++ b) := by
  apply ByteArray.ext
  simp [strB]
theorem index_at (c : UInt8) (r : List UInt8) : ∀ l : List UInt8, (∀ b ∈ l, b ≠ c) → Lib.index (l ++ c :: r) [c] = l.length
  | [], _ => by simp [Lib.index]
  | b :: l, h => by
    have ih := index_at c r l fun x hx => h x (by simp [hx])
    have hb : b ≠ c := h b (by simp)
    have hp : [c].isPrefixOf (b :: (l ++ c :: r)) = false := by simp [List.isPrefixOf]; exact fun e => hb e.symm
    simp only [List.cons_append, Lib.index, hp, ih]
    have : ((l.length : Int) == -1) = false := by rw [beq_eq_false_iff_ne]; omega
    rw [this]
    simp
theorem index_no (c : UInt8) : ∀ l : List UInt8, (∀ b ∈ l, b ≠ c) → Lib.index l [c] = -1
  | [], _ => by simp [Lib.index]
  | b :: l, h => by
    have ih := index_no c l fun x hx => h x (by simp [hx])
    have hb : b ≠ c := h b (by simp)
    have hp : [c].isPrefixOf (b :: l) = false := by simp [List.isPrefixOf]; exact fun e => hb e.symm
    simp only [Lib.index, hp, ih]
    rfl
theorem cut_at (c : UInt8) (l r : List UInt8) (h : ∀ b ∈ l, b ≠ c) : Lib.cut (l ++ c :: r) [c] = (l, r, true) := by
  unfold Lib.cut
  rw [index_at c r l h, if_pos (by omega)]
  simp
theorem cut_no (c : UInt8) (l : List UInt8) (h : ∀ b ∈ l, b ≠ c) : Lib.cut l [c] = (l, [], false) := by
  unfold Lib.cut
  rw [index_no c l h, if_neg (by omega)]
theorem trim_sign (r : List UInt8) : Lib.trimPrefix (45 :: r) [45] = r := by
  simp [Lib.trimPrefix, Lib.hasPrefix, List.isPrefixOf]
theorem trim_plain (r : List UInt8) (h : ∀ b, r.head? = some b → b ≠ 45) : Lib.trimPrefix r [45] = r := by
  cases r with
  | nil => rfl
  | cons b r =>
    have hb := h b rfl
    have : Lib.hasPrefix (b :: r) [45] = false := by simp [Lib.hasPrefix, List.isPrefixOf]; exact fun e => hb e.symm
    simp [Lib.trimPrefix, this]
def signL (s : Bool) : List UInt8 := if s then [45] else []
def bodyL (q : Rat) : List UInt8 := dg q.num.natAbs ++ (if q.den = 1 then [] else 47 :: dg q.den)
def printL (q : Rat) : List UInt8 := signL (ratNeg q) ++ bodyL q
theorem body_head (q : Rat) : ∀ b, (bodyL q).head? = some b → b ≠ 45 := by
  intro b hb e
  unfold bodyL at hb
  cases hd : dg q.num.natAbs with
  | nil => exact dg_ne _ hd
  | cons a r =>
    rw [hd] at hb
    simp at hb
    subst hb
    have := dg_byte q.num.natAbs a (by rw [hd]; simp)
    rw [e] at this
    have e2 : (45 : UInt8).toNat = 45 := rfl
    omega
theorem print_trim (q : Rat) : Lib.trimPrefix (printL q) [45] = bodyL q := by
  unfold printL signL
  cases ratNeg q
  · exact trim_plain _ (body_head q)
  · exact trim_sign _
theorem dg_not (N : Nat) (c : UInt8) (h : c.toNat < 48) : ∀ b ∈ dg N, b ≠ c := fun b hb e => by
  have := dg_byte N b hb
  rw [e] at this
  omega
theorem body_cut (q : Rat) : Lib.cut (bodyL q) [47] = if q.den = 1 then (dg q.num.natAbs, [], false) else (dg q.num.natAbs, dg q.den, true) := by
  unfold bodyL
  by_cases h : q.den = 1
  · rw [if_pos h, if_pos h, List.append_nil]
    exact cut_no 47 _ (dg_not _ 47 (by decide))
  · rw [if_neg h, if_neg h]
    exact cut_at 47 _ _ (dg_not _ 47 (by decide))
theorem strB_ne (l : List UInt8) (h : l ≠ []) : (strB l).toList.isEmpty = false := by
  rw [ByteArray.toList_eq, strB_data]
  cases l with
  | nil => exact absurd rfl h
  | cons a l => rfl
theorem strB_nil : strB [] = ⟨#[]⟩ := rfl
theorem strB_nil_empty : (strB []).toList.isEmpty = true := by
  rw [ByteArray.toList_eq, strB_data]; rfl
end Go.Proofs.YtlbbbafehhdpnaaDoor

namespace Go.Proofs.YtlbbbafehhdpnaaDoor
open Go.RowKit
set_option linter.unusedVariables false
set_option linter.unusedSimpArgs false


theorem dg_le (N z : Nat) (h : (limbs N).length ≤ z) : (dg N).length ≤ 32 * z + 32 := by
  rw [dg_len]
  have h1 : N < 10 ^ (32 * (z + 1)) := Nat.lt_of_lt_of_le (limbs_lt N) (Nat.le_trans (Nat.pow_le_pow_right (by decide) (by omega)) (Nat.pow_le_pow_left (by decide) _))
  have := dec_len N (32 * (z + 1)) h1 (by omega)
  omega
theorem sign_le (s : Bool) : (strB (signL s)).size ≤ 1 := by rw [strB_size]; cases s <;> simp [signL]
def lowL (q : Rat) : List UInt8 := if q.den = 1 then [] else dg q.den
set_option maxRecDepth 100000 in
set_option maxHeartbeats 4000000 in
theorem rparts_any (b1 : RB) (q : Rat) (w : World) (h1 : RatAt w b1 q) (z : Nat) (hz : z ≤ 1000000) (l1 : RatLe q z) :
    Calls Tryd.prog 51 #[b1.val (ratNeg q)] w fun e w' => e = .returned (.tuple #[.string (strB (signL (ratNeg q))), .string (strB (dg q.num.natAbs)), .string (strB (lowL q))]) ∧ Below w.heap.size w w' := by
  have hpt := fun W h => parts_any b1 q W h z hz l1
  have hwh := fun W h => whole_any (ratNeg q) b1 q W h
  obtain ⟨A, n, c, A2, n2, c2⟩ := b1
  have hpn := l1.num
  have hpd := l1.den
  unfold RB.val lowL
  unfold RB.val at hpt hwh
  simp only at hpt hwh ⊢
  generalize hs1 : ratNeg q = s1 at *
  clear hs1
  generalize q.num.natAbs = pa at *
  generalize q.den = pd at *
  have e1 : (limbs pa).length ≤ 100000000 := by omega
  have e2 : (limbs pd).length ≤ 100000000 := by omega
  have HE1 := Lib.hid e1
  have HE2 := Lib.hid e2
  clear e1 e2 hpn hpd l1
  by_cases h0 : pd = 1
  · rw [if_pos h0]
    rw [decide_eq_true h0] at hwh
    have HPT := Lib.hid hpt
    have HWH := Lib.hid hwh
    clear hpt hwh h0
    cases s1
    · skip
      go_enter Tryd.func51, Tryd.ntmps51
      go_upto_region 1 with fail
      have hx1 := heap_alloc_new w (.cells #[.bool false, .slice A n c, .slice A2 n2 c2] 50)
      have hw1 : (w.alloc (.cells #[.bool false, .slice A n c, .slice A2 n2 c2] 50)).heap.size = w.heap.size + 1 := by simp
      have hbw := (Below.refl w.heap.size w).alloc (Nat.le_refl _) (.cells #[.bool false, .slice A n c, .slice A2 n2 c2] 50)
      obtain ⟨wk, hwk⟩ : ∃ x, x = w.alloc (.cells #[.bool false, .slice A n c, .slice A2 n2 c2] 50) := ⟨_, rfl⟩
      rw [← hwk] at hx1 hbw hw1 ⊢
      have h1k := h1.below hbw
      clear hwk h1
      have hcall := HPT.out wk h1k
      obtain ⟨x0, x1, x2⟩ := Box.of hx1
      have HX1 := Lib.hid hx1
      have HBW := Lib.hid hbw
      have H1 := Lib.hid h1k
      clear hx1 hbw h1k hw1
      go_upto_region 2 with (go_at_call 32; refine hcall.mono ?_; clear hcall; rintro e w5 ⟨A5, n5, c5, A6, n6, c6, rfl, h5, h6, b5⟩)
      clear x0 x1 x2
      obtain ⟨x0, x1, x2⟩ := Box.of (box_keep HX1.out b5)
      have hcall := HWH.out w5 (H1.out.below b5)
      have HB5 := Lib.hid b5
      have H5 := Lib.hid h5
      have H6 := Lib.hid h6
      clear b5 h5 h6
      go_upto_region 7 with (go_at_call 68; refine hcall.mono ?_; clear hcall; rintro e w6 ⟨rfl, b6⟩)
      have ht5 := text_num (H5.out.below b6) HE1.out
      have ht6 := text_num (H6.out.below b6) HE2.out
      rw [lv_limbs, txt_dg] at ht5 ht6
      have HB6 := Lib.hid ((HBW.out.trans (HB5.out.mono HBW.out.size)).trans (b6.mono (Nat.le_trans HBW.out.size HB5.out.size)))
      have H5 := Lib.hid (H5.out.below b6)
      have HT5 := Lib.hid ht5
      have HT6 := Lib.hid ht6
      clear ht5 ht6 b6
      go_wp2_with (go_at_call 20; refine HT5.out.mono ?_; rintro e w7 ⟨rfl, b7⟩)
      go_ret3
      exact ⟨rfl, HB6.out.trans (b7.mono HB6.out.size)⟩
    · skip
      go_enter Tryd.func51, Tryd.ntmps51
      go_upto_region 1 with fail
      have hx1 := heap_alloc_new w (.cells #[.bool true, .slice A n c, .slice A2 n2 c2] 50)
      have hw1 : (w.alloc (.cells #[.bool true, .slice A n c, .slice A2 n2 c2] 50)).heap.size = w.heap.size + 1 := by simp
      have hbw := (Below.refl w.heap.size w).alloc (Nat.le_refl _) (.cells #[.bool true, .slice A n c, .slice A2 n2 c2] 50)
      obtain ⟨wk, hwk⟩ : ∃ x, x = w.alloc (.cells #[.bool true, .slice A n c, .slice A2 n2 c2] 50) := ⟨_, rfl⟩
      rw [← hwk] at hx1 hbw hw1 ⊢
      have h1k := h1.below hbw
      clear hwk h1
      have hcall := HPT.out wk h1k
      obtain ⟨x0, x1, x2⟩ := Box.of hx1
      have HX1 := Lib.hid hx1
      have HBW := Lib.hid hbw
      have H1 := Lib.hid h1k
      clear hx1 hbw h1k hw1
      go_upto_region 2 with (go_at_call 32; refine hcall.mono ?_; clear hcall; rintro e w5 ⟨A5, n5, c5, A6, n6, c6, rfl, h5, h6, b5⟩)
      clear x0 x1 x2
      obtain ⟨x0, x1, x2⟩ := Box.of (box_keep HX1.out b5)
      have hcall := HWH.out w5 (H1.out.below b5)
      have HB5 := Lib.hid b5
      have H5 := Lib.hid h5
      have H6 := Lib.hid h6
      clear b5 h5 h6
      go_upto_region 7 with (go_at_call 68; refine hcall.mono ?_; clear hcall; rintro e w6 ⟨rfl, b6⟩)
      have ht5 := text_num (H5.out.below b6) HE1.out
      have ht6 := text_num (H6.out.below b6) HE2.out
      rw [lv_limbs, txt_dg] at ht5 ht6
      have HB6 := Lib.hid ((HBW.out.trans (HB5.out.mono HBW.out.size)).trans (b6.mono (Nat.le_trans HBW.out.size HB5.out.size)))
      have H5 := Lib.hid (H5.out.below b6)
      have HT5 := Lib.hid ht5
      have HT6 := Lib.hid ht6
      clear ht5 ht6 b6
      go_wp2_with (go_at_call 20; refine HT5.out.mono ?_; rintro e w7 ⟨rfl, b7⟩)
      go_ret3
      exact ⟨rfl, HB6.out.trans (b7.mono HB6.out.size)⟩
  · rw [if_neg h0]
    rw [decide_eq_false h0] at hwh
    have HPT := Lib.hid hpt
    have HWH := Lib.hid hwh
    clear hpt hwh h0
    cases s1
    · skip
      go_enter Tryd.func51, Tryd.ntmps51
      go_upto_region 1 with fail
      have hx1 := heap_alloc_new w (.cells #[.bool false, .slice A n c, .slice A2 n2 c2] 50)
      have hw1 : (w.alloc (.cells #[.bool false, .slice A n c, .slice A2 n2 c2] 50)).heap.size = w.heap.size + 1 := by simp
      have hbw := (Below.refl w.heap.size w).alloc (Nat.le_refl _) (.cells #[.bool false, .slice A n c, .slice A2 n2 c2] 50)
      obtain ⟨wk, hwk⟩ : ∃ x, x = w.alloc (.cells #[.bool false, .slice A n c, .slice A2 n2 c2] 50) := ⟨_, rfl⟩
      rw [← hwk] at hx1 hbw hw1 ⊢
      have h1k := h1.below hbw
      clear hwk h1
      have hcall := HPT.out wk h1k
      obtain ⟨x0, x1, x2⟩ := Box.of hx1
      have HX1 := Lib.hid hx1
      have HBW := Lib.hid hbw
      have H1 := Lib.hid h1k
      clear hx1 hbw h1k hw1
      go_upto_region 2 with (go_at_call 32; refine hcall.mono ?_; clear hcall; rintro e w5 ⟨A5, n5, c5, A6, n6, c6, rfl, h5, h6, b5⟩)
      clear x0 x1 x2
      obtain ⟨x0, x1, x2⟩ := Box.of (box_keep HX1.out b5)
      have hcall := HWH.out w5 (H1.out.below b5)
      have HB5 := Lib.hid b5
      have H5 := Lib.hid h5
      have H6 := Lib.hid h6
      clear b5 h5 h6
      go_upto_region 6 with (go_at_call 68; refine hcall.mono ?_; clear hcall; rintro e w6 ⟨rfl, b6⟩)
      have ht5 := text_num (H5.out.below b6) HE1.out
      have ht6 := text_num (H6.out.below b6) HE2.out
      rw [lv_limbs, txt_dg] at ht5 ht6
      have HB6 := Lib.hid ((HBW.out.trans (HB5.out.mono HBW.out.size)).trans (b6.mono (Nat.le_trans HBW.out.size HB5.out.size)))
      have H5 := Lib.hid (H5.out.below b6)
      have HT5 := Lib.hid ht5
      have HT6 := Lib.hid ht6
      clear ht5 ht6 b6
      go_upto_region 7 with (go_at_call 20; refine HT6.out.mono ?_; rintro e w7 ⟨rfl, b7⟩)
      have ht5 := text_num (H5.out.below b7) HE1.out
      rw [lv_limbs, txt_dg] at ht5
      go_wp2_with (go_at_call 20; refine ht5.mono ?_; clear ht5; rintro e w8 ⟨rfl, b8⟩)
      go_ret3
      exact ⟨rfl, HB6.out.trans ((b7.trans (b8.mono b7.size)).mono HB6.out.size)⟩
    · skip
      go_enter Tryd.func51, Tryd.ntmps51
      go_upto_region 1 with fail
      have hx1 := heap_alloc_new w (.cells #[.bool true, .slice A n c, .slice A2 n2 c2] 50)
      have hw1 : (w.alloc (.cells #[.bool true, .slice A n c, .slice A2 n2 c2] 50)).heap.size = w.heap.size + 1 := by simp
      have hbw := (Below.refl w.heap.size w).alloc (Nat.le_refl _) (.cells #[.bool true, .slice A n c, .slice A2 n2 c2] 50)
      obtain ⟨wk, hwk⟩ : ∃ x, x = w.alloc (.cells #[.bool true, .slice A n c, .slice A2 n2 c2] 50) := ⟨_, rfl⟩
      rw [← hwk] at hx1 hbw hw1 ⊢
      have h1k := h1.below hbw
      clear hwk h1
      have hcall := HPT.out wk h1k
      obtain ⟨x0, x1, x2⟩ := Box.of hx1
      have HX1 := Lib.hid hx1
      have HBW := Lib.hid hbw
      have H1 := Lib.hid h1k
      clear hx1 hbw h1k hw1
      go_upto_region 2 with (go_at_call 32; refine hcall.mono ?_; clear hcall; rintro e w5 ⟨A5, n5, c5, A6, n6, c6, rfl, h5, h6, b5⟩)
      clear x0 x1 x2
      obtain ⟨x0, x1, x2⟩ := Box.of (box_keep HX1.out b5)
      have hcall := HWH.out w5 (H1.out.below b5)
      have HB5 := Lib.hid b5
      have H5 := Lib.hid h5
      have H6 := Lib.hid h6
      clear b5 h5 h6
      go_upto_region 6 with (go_at_call 68; refine hcall.mono ?_; clear hcall; rintro e w6 ⟨rfl, b6⟩)
      have ht5 := text_num (H5.out.below b6) HE1.out
      have ht6 := text_num (H6.out.below b6) HE2.out
      rw [lv_limbs, txt_dg] at ht5 ht6
      have HB6 := Lib.hid ((HBW.out.trans (HB5.out.mono HBW.out.size)).trans (b6.mono (Nat.le_trans HBW.out.size HB5.out.size)))
      have H5 := Lib.hid (H5.out.below b6)
      have HT5 := Lib.hid ht5
      have HT6 := Lib.hid ht6
      clear ht5 ht6 b6
      go_upto_region 7 with (go_at_call 20; refine HT6.out.mono ?_; rintro e w7 ⟨rfl, b7⟩)
      have ht5 := text_num (H5.out.below b7) HE1.out
      rw [lv_limbs, txt_dg] at ht5
      go_wp2_with (go_at_call 20; refine ht5.mono ?_; clear ht5; rintro e w8 ⟨rfl, b8⟩)
      go_ret3
      exact ⟨rfl, HB6.out.trans ((b7.trans (b8.mono b7.size)).mono HB6.out.size)⟩
set_option maxRecDepth 100000 in
set_option maxHeartbeats 4000000 in
theorem print_any (b1 : RB) (q : Rat) (w : World) (h1 : RatAt w b1 q) (z : Nat) (hz : z ≤ 1000000) (l1 : RatLe q z) :
    Calls Tryd.prog 23 #[b1.val (ratNeg q)] w fun e w' => e = .returned (.string (strB (printL q))) ∧ Below w.heap.size w w' := by
  have hpt := fun W h => rparts_any b1 q W h z hz l1
  obtain ⟨A, n, c, A2, n2, c2⟩ := b1
  unfold RB.val
  unfold RB.val at hpt
  simp only at hpt ⊢
  by_cases h0 : q.den = 1
  · have hlow : lowL q = [] := by unfold lowL; rw [if_pos h0]
    have hpr : strB (printL q) = strB (signL (ratNeg q)) ++ strB (dg q.num.natAbs) := by
      rw [strB_append]; unfold printL bodyL; rw [if_pos h0, List.append_nil]
    rw [hlow] at hpt
    have hem := strB_nil_empty
    have hz1 := sign_le (ratNeg q)
    have hz2 : (strB (dg q.num.natAbs)).size ≤ 100000000 := by rw [strB_size]; have := dg_le _ _ l1.num; omega
    have HPR := Lib.hid hpr
    have HPT := Lib.hid hpt
    clear hpt hlow hpr h0
    generalize strB (signL (ratNeg q)) = S1 at *
    generalize strB (dg q.num.natAbs) = S2 at *
    generalize strB ([] : List UInt8) = S3 at *
    generalize ratNeg q = s1 at *
    go_enter Tryd.func23, Tryd.ntmps23
    go_upto_region 1 with fail
    have hx1 := heap_alloc_new w (.cells #[.bool s1, .slice A n c, .slice A2 n2 c2] 50)
    have hw1 : (w.alloc (.cells #[.bool s1, .slice A n c, .slice A2 n2 c2] 50)).heap.size = w.heap.size + 1 := by simp
    have hbw := (Below.refl w.heap.size w).alloc (Nat.le_refl _) (.cells #[.bool s1, .slice A n c, .slice A2 n2 c2] 50)
    obtain ⟨wk, hwk⟩ : ∃ x, x = w.alloc (.cells #[.bool s1, .slice A n c, .slice A2 n2 c2] 50) := ⟨_, rfl⟩
    rw [← hwk] at hx1 hbw hw1 ⊢
    have h1k := h1.below hbw
    clear hwk h1
    have hcall := HPT.out wk h1k
    obtain ⟨x0, x1, x2⟩ := Box.of hx1
    have HBW := Lib.hid hbw
    clear hx1 hbw h1k hw1
    go_wp2_with (go_at_call 51; refine hcall.mono ?_; clear hcall; rintro e w5 ⟨rfl, b5⟩)
    go_ret
    exact ⟨by rw [HPR.out] <;> rfl, HBW.out.trans (b5.mono HBW.out.size)⟩
  · have hlow : lowL q = dg q.den := by unfold lowL; rw [if_neg h0]
    have hpr : strB (printL q) = strB (signL (ratNeg q)) ++ strB (dg q.num.natAbs) ++ ⟨#[47]⟩ ++ strB (dg q.den) := by
      rw [show (⟨#[47]⟩ : ByteArray) = strB [47] from rfl, strB_append, strB_append, strB_append]
      unfold printL bodyL
      rw [if_neg h0]
      simp
    rw [hlow] at hpt
    have hem := strB_ne _ (dg_ne q.den)
    have hz1 := sign_le (ratNeg q)
    have hz2 : (strB (dg q.num.natAbs)).size ≤ 100000000 := by rw [strB_size]; have := dg_le _ _ l1.num; omega
    have hz3 : (strB (dg q.den)).size ≤ 100000000 := by rw [strB_size]; have := dg_le _ _ l1.den; omega
    have HPR := Lib.hid hpr
    have HPT := Lib.hid hpt
    clear hpt hlow hpr h0
    generalize strB (signL (ratNeg q)) = S1 at *
    generalize strB (dg q.num.natAbs) = S2 at *
    generalize strB (dg q.den) = S3 at *
    generalize ratNeg q = s1 at *
    go_enter Tryd.func23, Tryd.ntmps23
    go_upto_region 1 with fail
    have hx1 := heap_alloc_new w (.cells #[.bool s1, .slice A n c, .slice A2 n2 c2] 50)
    have hw1 : (w.alloc (.cells #[.bool s1, .slice A n c, .slice A2 n2 c2] 50)).heap.size = w.heap.size + 1 := by simp
    have hbw := (Below.refl w.heap.size w).alloc (Nat.le_refl _) (.cells #[.bool s1, .slice A n c, .slice A2 n2 c2] 50)
    obtain ⟨wk, hwk⟩ : ∃ x, x = w.alloc (.cells #[.bool s1, .slice A n c, .slice A2 n2 c2] 50) := ⟨_, rfl⟩
    rw [← hwk] at hx1 hbw hw1 ⊢
    have h1k := h1.below hbw
    clear hwk h1
    have hcall := HPT.out wk h1k
    obtain ⟨x0, x1, x2⟩ := Box.of hx1
    have HBW := Lib.hid hbw
    clear hx1 hbw h1k hw1
    go_wp2_with (go_at_call 51; refine hcall.mono ?_; clear hcall; rintro e w5 ⟨rfl, b5⟩)
    go_ret
    exact ⟨by rw [HPR.out] <;> rfl, HBW.out.trans (b5.mono HBW.out.size)⟩
end Go.Proofs.YtlbbbafehhdpnaaDoor

namespace Go.Proofs.YtlbbbafehhdpnaaDoor
open Go.RowKit
set_option linter.unusedVariables false
set_option linter.unusedSimpArgs false

theorem trim_call (q : Rat) (w : World) : Calls Tryd.prog 48 #[.string (strB (printL q)), .string ⟨#[45]⟩] w fun e w' => e = .returned (.string (strB (bodyL q))) ∧ w' = w := by
  have h := Tryd.strings_TrimPrefix (strB (printL q)) ⟨#[45]⟩ w
  rw [strB_data, show (⟨#[45]⟩ : ByteArray).data.toList = [45] from rfl, print_trim] at h
  exact h
theorem cut_call (l : List UInt8) (c : UInt8) (w : World) (m : Int) (hl : l.length ≤ 1000000) (hm : w.cell? ⟨0, 0, none⟩ = some (.int .i64 m)) :
    Calls Tryd.prog 49 #[.string (strB l), .string ⟨#[c]⟩] w fun e w' => e = .returned (.tuple #[.string (strB (Lib.cut l [c]).1), .string (strB (Lib.cut l [c]).2.1), .bool (Lib.cut l [c]).2.2]) ∧ ∃ n, w' = w.drewN n := by
  have h := Tryd.strings_Cut (strB l) ⟨#[c]⟩ m w (by rw [strB_size]; omega) hm
  rw [strB_data, show (⟨#[c]⟩ : ByteArray).data.toList = [c] from rfl] at h
  exact h
theorem print_len (q : Rat) (z : Nat) (l1 : RatLe q z) : (bodyL q).length ≤ 64 * z + 65 ∧ (printL q).length ≤ 64 * z + 66 ∧ ((bodyL q).length < (printL q).length ↔ ratNeg q = true) := by
  have h1 := dg_le _ _ l1.num
  have h2 := dg_le _ _ l1.den
  have hb : (bodyL q).length ≤ 64 * z + 65 := by
    unfold bodyL
    rw [List.length_append]
    split
    · simp; omega
    · rw [List.length_cons]; omega
  have hp : (printL q).length = (signL (ratNeg q)).length + (bodyL q).length := by unfold printL; rw [List.length_append]
  refine ⟨hb, ?_, ?_⟩
  · rw [hp]
    cases ratNeg q <;> simp [signL] <;> omega
  · rw [hp]
    cases ratNeg q <;> simp [signL]
theorem one_len : (limbs 1).length ≤ 10000000 := by
  rw [limbs_pos 1 (by decide), show 1 / 4294967296 = 0 by decide, limbs_zero]
  decide
theorem one_pos : 0 < lv (limbs 1) := by rw [lv_limbs]; decide
set_option maxRecDepth 100000 in
set_option maxHeartbeats 4000000 in
theorem rparse_any (q : Rat) (w : World) (mx : Int) (hm : w.cell? ⟨0, 0, none⟩ = some (.int .i64 mx)) (z : Nat) (hz : z ≤ 300) (l1 : RatLe q z) :
    Calls Tryd.prog 22 #[.string (strB (printL q))] w fun e w' => ∃ b : RB, e = .returned (.tuple #[b.val (ratNeg q), .int .i64 0]) ∧ RatAt w' b q ∧ Below w.heap.size w w' := by
  obtain ⟨hl1, hl2, hl3⟩ := print_len q z l1
  have htr := fun W => trim_call q W
  have hlt0 : 0 < w.heap.size := World.block_lt_of_cell? w _ hm
  have hsz : ¬ (((strB (printL q)).size : Int) > 20000) := by rw [strB_size]; omega
  have hlen : decide ((strB (bodyL q)).size < (strB (printL q)).size) = ratNeg q := by
    rw [strB_size, strB_size]
    cases hs : ratNeg q
    · rw [hs] at hl3
      exact decide_eq_false fun h => by have := hl3.1 (by omega); cases this
    · exact decide_eq_true (by have := hl3.2 hs; omega)
  have hc1 := fun W hm => cut_call (bodyL q) 47 W mx (by omega) hm
  rw [body_cut] at hc1
  have hp1 := fun W => parse_num q.num.natAbs W (by have := dg_le _ _ l1.num; rw [dg_len] at this; omega)
  have hp2 := fun W => parse_num q.den W (by have := dg_le _ _ l1.den; rw [dg_len] at this; omega)
  have hn1 := l1.num
  have hn2 := l1.den
  have hself := mk_self q
  have hdp : 0 < lv (limbs q.den) := by rw [lv_limbs]; exact Nat.pos_of_ne_zero q.den_nz
  unfold RB.val
  have HTR := Lib.hid htr
  have HLEN := Lib.hid hlen
  have HP1 := Lib.hid hp1
  have HP2 := Lib.hid hp2
  have HSELF := Lib.hid hself
  have HMX := Lib.hid hm
  clear htr hp1 hp2 hself hl3 hlen
  by_cases h0 : q.den = 1
  · rw [if_pos h0] at hc1
    have hbd : bodyL q = dg q.num.natAbs := by unfold bodyL; rw [if_pos h0, List.append_nil]
    have hc2 := fun W hm => cut_call (bodyL q) 46 W mx (by omega) hm
    rw [hbd, cut_no 46 _ (dg_not _ 46 (by decide))] at hc2
    rw [hbd] at hc1 HTR HLEN
    have HC1 := Lib.hid hc1
    have HC2 := Lib.hid hc2
    have HD := Lib.hid h0
    clear hc1 hc2 hbd h0 hl1 hl2
    have hd1 : mkRat (sgn (ratNeg q) q.num.natAbs) 1 = q := by
      have := HSELF.out
      rw [HD.out] at this
      exact this
    have HD1 := Lib.hid hd1
    clear hd1
    generalize strB (printL q) = S at *
    go_enter Tryd.func22, Tryd.ntmps22
    go_upto_region 1 with fail
    have hr3 := heap_alloc_new w (.cells #[.bool false, .slice none 0 0, .slice none 0 0] 50)
    have hbw := (Below.refl w.heap.size w).alloc (Nat.le_refl _) (.cells #[.bool false, .slice none 0 0, .slice none 0 0] 50)
    obtain ⟨wz, hwz⟩ : ∃ x, x = w.alloc (.cells #[.bool false, .slice none 0 0, .slice none 0 0] 50) := ⟨_, rfl⟩
    rw [← hwz] at hr3 hbw ⊢
    have HR3 := Lib.hid hr3
    have HBW := Lib.hid hbw
    clear hwz hr3 hbw
    go_upto_region 5 with (go_at_call 48; refine (HTR.out _).mono ?_; rintro e w1 ⟨rfl, hw⟩; obtain rfl := hw.symm)
    rw [HLEN.out]
    have hone := num_lit1 wz
    have hb1 : Below wz.heap.size wz (wz.alloc (.cells #[.int .u32 1] 25)) := (Below.refl _ _).alloc (Nat.le_refl _) _
    have hm1 := ((HBW.out.trans (hb1.mono HBW.out.size)).cell (p := ⟨0, 0, none⟩) hlt0).trans HMX.out
    go_upto_region 6 with fail
    obtain ⟨wa, hwa⟩ : ∃ x, x = wz.alloc (.cells #[.int .u32 1] 25) := ⟨_, rfl⟩
    rw [← hwa] at hb1 hm1 hone ⊢
    have hcall := HC1.out wa hm1
    have HB1 := Lib.hid hb1
    have HN1 := Lib.hid hone
    clear hwa hb1 hm1 hone
    go_upto_region 12 with (go_at_call 49; refine hcall.mono ?_; clear hcall; rintro e w2 ⟨rfl, k2, rfl⟩)
    have hm2 := ((HBW.out.trans ((below_drewN HB1.out k2).mono HBW.out.size)).cell (p := ⟨0, 0, none⟩) hlt0).trans HMX.out
    have hcall := HC2.out (wa.drewN k2) hm2
    clear hm2
    go_upto_region 18 with (go_at_call 49; refine hcall.mono ?_; clear hcall; rintro e w3 ⟨rfl, k3, rfl⟩)
    have hb3 := below_drewN HB1.out (k2 + k3)
    have hn3 := HN1.out.drewN (k2 + k3)
    have hcall := HP1.out (wa.drewN (k2 + k3))
    obtain ⟨wt, hwt⟩ : ∃ x, x = wa.drewN (k2 + k3) := ⟨_, rfl⟩
    rw [← hwt] at hb3 hn3 hcall ⊢
    rw [txt_dg] at hcall
    have HB3 := Lib.hid hb3
    have H3 := Lib.hid hn3
    clear hb3 hn3 hwt
    go_upto_region 21 with (go_at_call 19; refine hcall.mono ?_; clear hcall; rintro e w4 ⟨A4, n4, c4, rfl, h4, b4⟩)
    have hmk := make_any (ratNeg q) h4 (H3.out.below b4) (by omega) one_len one_pos
    rw [lv_limbs, lv_limbs, HD1.out] at hmk
    unfold RB.val at hmk
    have HBY := Lib.hid (HB3.out.trans (b4.mono HB3.out.size))
    clear h4 b4
    have HMK := Lib.hid hmk
    clear hmk
    go_wp2_with (go_at_call 33; refine HMK.out.mono ?_; rintro e w28 ⟨rb, rfl, hrat, b28'⟩; have b28 := HBY.out.trans (b28'.mono HBY.out.size); have HR5 := Lib.hid ((box_keep (box_keep HR3.out b28) ((Below.refl _ _).alloc (Nat.le_refl _) (.cells #[.bool (ratNeg q), .slice rb.A rb.n rb.c, .slice rb.A2 rb.n2 rb.c2] 50)))); obtain ⟨r0, r1, r2⟩ := Box.of HR5.out; have s0 := frozen_of_blk HR5.out 0; have s1' := frozen_of_blk HR5.out 1; have s2' := frozen_of_blk HR5.out 2; have HRAT := Lib.hid (hrat.alloc (.cells #[.bool (ratNeg q), .slice rb.A rb.n rb.c, .slice rb.A2 rb.n2 rb.c2] 50)); have HB28 := Lib.hid ((HBW.out.trans (b28.mono HBW.out.size)).alloc (Nat.le_trans HBW.out.size b28.size) (.cells #[.bool (ratNeg q), .slice rb.A rb.n rb.c, .slice rb.A2 rb.n2 rb.c2] 50)); clear hrat)
    refine bodyPost_ret (v := .tuple #[.agg #[.bool (ratNeg q), .slice rb.A rb.n rb.c, .slice rb.A2 rb.n2 rb.c2], .int .i64 0]) (by simp [results, Tryd.results22, go_sem, r0, r1, r2]) rfl ?_
    refine ⟨rb, rfl, HRAT.out.fr (S := fun b => b = w.heap.size) (fr_set (fr_set (fr_set (Fr.refl _ _) (.inl rfl)) (.inl rfl)) (.inl rfl)) ?_, bl_set (bl_set (bl_set HB28.out ?_) ?_) ?_⟩
    · intro b i k hb e
      subst hb
      rw [cell_of_blk HR5.out i] at e
      exact no_int3 _ _ _ (by simp) (by simp) (by simp) i k e
    all_goals
      simp
  · rw [if_neg h0] at hc1
    have HC1 := Lib.hid hc1
    clear hc1 h0 hl1 hl2
    generalize strB (printL q) = S at *
    generalize strB (bodyL q) = B at *
    go_enter Tryd.func22, Tryd.ntmps22
    go_upto_region 1 with fail
    have hr3 := heap_alloc_new w (.cells #[.bool false, .slice none 0 0, .slice none 0 0] 50)
    have hbw := (Below.refl w.heap.size w).alloc (Nat.le_refl _) (.cells #[.bool false, .slice none 0 0, .slice none 0 0] 50)
    obtain ⟨wz, hwz⟩ : ∃ x, x = w.alloc (.cells #[.bool false, .slice none 0 0, .slice none 0 0] 50) := ⟨_, rfl⟩
    rw [← hwz] at hr3 hbw ⊢
    have HR3 := Lib.hid hr3
    have HBW := Lib.hid hbw
    clear hwz hr3 hbw
    go_upto_region 5 with (go_at_call 48; refine (HTR.out _).mono ?_; rintro e w1 ⟨rfl, hw⟩; obtain rfl := hw.symm)
    rw [HLEN.out]
    have hb1 : Below wz.heap.size wz (wz.alloc (.cells #[.int .u32 1] 25)) := (Below.refl _ _).alloc (Nat.le_refl _) _
    have hm1 := ((HBW.out.trans (hb1.mono HBW.out.size)).cell (p := ⟨0, 0, none⟩) hlt0).trans HMX.out
    go_upto_region 6 with fail
    obtain ⟨wa, hwa⟩ : ∃ x, x = wz.alloc (.cells #[.int .u32 1] 25) := ⟨_, rfl⟩
    rw [← hwa] at hb1 hm1 ⊢
    have hcall := HC1.out wa hm1
    have HB1 := Lib.hid hb1
    clear hwa hb1 hm1
    go_upto_region 8 with (go_at_call 49; refine hcall.mono ?_; clear hcall; rintro e w2 ⟨rfl, k2, rfl⟩)
    have hcall := HP2.out (wa.drewN k2)
    rw [txt_dg] at hcall
    go_upto_region 18 with (go_at_call 19; refine hcall.mono ?_; clear hcall; rintro e w3 ⟨A3, n3, c3, rfl, h3, b3⟩)
    have hcall := HP1.out w3
    rw [txt_dg] at hcall
    have HB3 := Lib.hid ((below_drewN HB1.out k2).trans (b3.mono (below_drewN HB1.out k2).size))
    have H3 := Lib.hid h3
    clear h3 b3
    go_upto_region 21 with (go_at_call 19; refine hcall.mono ?_; clear hcall; rintro e w4 ⟨A4, n4, c4, rfl, h4, b4⟩)
    have hmk := make_any (ratNeg q) h4 (H3.out.below b4) (by omega) (by omega) hdp
    rw [lv_limbs, lv_limbs, HSELF.out] at hmk
    unfold RB.val at hmk
    have HBY := Lib.hid (HB3.out.trans (b4.mono HB3.out.size))
    clear h4 b4
    have HMK := Lib.hid hmk
    clear hmk
    go_wp2_with (go_at_call 33; refine HMK.out.mono ?_; rintro e w28 ⟨rb, rfl, hrat, b28'⟩; have b28 := HBY.out.trans (b28'.mono HBY.out.size); have HR5 := Lib.hid ((box_keep (box_keep HR3.out b28) ((Below.refl _ _).alloc (Nat.le_refl _) (.cells #[.bool (ratNeg q), .slice rb.A rb.n rb.c, .slice rb.A2 rb.n2 rb.c2] 50)))); obtain ⟨r0, r1, r2⟩ := Box.of HR5.out; have s0 := frozen_of_blk HR5.out 0; have s1' := frozen_of_blk HR5.out 1; have s2' := frozen_of_blk HR5.out 2; have HRAT := Lib.hid (hrat.alloc (.cells #[.bool (ratNeg q), .slice rb.A rb.n rb.c, .slice rb.A2 rb.n2 rb.c2] 50)); have HB28 := Lib.hid ((HBW.out.trans (b28.mono HBW.out.size)).alloc (Nat.le_trans HBW.out.size b28.size) (.cells #[.bool (ratNeg q), .slice rb.A rb.n rb.c, .slice rb.A2 rb.n2 rb.c2] 50)); clear hrat)
    refine bodyPost_ret (v := .tuple #[.agg #[.bool (ratNeg q), .slice rb.A rb.n rb.c, .slice rb.A2 rb.n2 rb.c2], .int .i64 0]) (by simp [results, Tryd.results22, go_sem, r0, r1, r2]) rfl ?_
    refine ⟨rb, rfl, HRAT.out.fr (S := fun b => b = w.heap.size) (fr_set (fr_set (fr_set (Fr.refl _ _) (.inl rfl)) (.inl rfl)) (.inl rfl)) ?_, bl_set (bl_set (bl_set HB28.out ?_) ?_) ?_⟩
    · intro b i k hb e
      subst hb
      rw [cell_of_blk HR5.out i] at e
      exact no_int3 _ _ _ (by simp) (by simp) (by simp) i k e
    all_goals
      simp
end Go.Proofs.YtlbbbafehhdpnaaDoor

namespace Go.Proofs.YtlbbbafehhdpnaaDoor
open Go.RowKit
set_option linter.unusedVariables false
set_option linter.unusedSimpArgs false

theorem tens_one (w : World) : Calls Tryd.prog 50 #[.int .i64 1] w fun e w' => ∃ A n c, e = .returned (.tuple #[.slice A n c, .int .i64 0]) ∧ ∃ L, Num w' A n c L ∧ lv L = 10 ∧ L.length ≤ 2 ∧ Below w.heap.size w w' := by
  go_enter Tryd.func50, Tryd.ntmps50
  go_wp2_with fail
  have hown := World.ownsRow_lit (base := w.heap.size) (e := 25) (size := 1) w #[.int .u32 1] 1 (Nat.le_refl _) (by unfold maxLen; omega) rfl
  have hb0 : Below w.heap.size w (w.alloc (.cells #[.int .u32 1] 25)) := (Below.refl _ _).alloc (Nat.le_refl _) _
  have HO := Lib.hid hown
  have HB := Lib.hid hb0
  clear hown hb0
  generalize w.alloc (.cells #[.int .u32 1] 25) = w1 at *
  go_loopw [0, 4] (fun x v wr => x = .int .i64 1 ∧ v = .slice (some ⟨w.heap.size, 0, none⟩) 1 1 ∧ wr = w1) (fun _ _ _ => 0)
  case atStart => exact ⟨rfl, rfl, rfl⟩
  case round =>
    obtain ⟨rfl, rfl, rfl⟩ := hrel
    go_wp2_with fail
    obtain ⟨w1, rfl⟩ : ∃ x, x = wr := ⟨_, rfl⟩
    go_loopw [0, 4] (fun x v wr => ∃ (k : Nat) (L : List Nat), k ≤ 1 ∧ x = .int .i64 k ∧ wr.ownsRow w.heap.size 25 1 v L.length (lw L) ∧ small L ∧ L.length + k ≤ 2 ∧ lv L = (if k = 1 then 1 else 10) ∧ Below w.heap.size w wr) (fun x _ _ => (intOf x).toNat)
    case atStart => exact ⟨1, [1], Nat.le_refl _, rfl, HO.out, fun y hy => by simp at hy; omega, by simp, by simp [lv], HB.out⟩
    case round =>
      obtain ⟨k, L, hk, rfl, ho, hs, hl, hv, hb⟩ := hrel
      by_cases hk1 : k = 1
      · subst hk1
        rw [if_pos rfl] at hv
        have hgr := grow_any w.heap.size _ L.length L 10 0 wr ho hb.size hs (by omega) (by decide) (by decide)
        rw [hv] at hgr
        have HGR := Lib.hid hgr
        have HBB := Lib.hid hb
        clear hgr ho hv hb
        go_wp2_with (go_at_call 46; refine HGR.out.mono ?_; rintro e w3 ⟨v3, rfl, L3, ho3, hs3, hv3, hl3, hf3, hb3⟩)
        go_roundw
        case rel => exact ⟨0, L3, by omega, rfl, ho3, hs3, by omega, by rw [hv3]; rfl, HBB.out.trans hb3⟩
        case measure => simp [intOf]
      · obtain rfl : k = 0 := by omega
        rw [if_neg (by decide)] at hv
        obtain ⟨A, c, rfl, hc, hrd⟩ := ownsRow_form ho
        have HN := Lib.hid (Num.mk hrd rfl hc hs)
        have HV := Lib.hid hv
        have HBB := Lib.hid hb
        clear hv hrd ho hb
        go_wp2_with fail
        go_ret2
        exact ⟨_, _, _, rfl, L, HN.out, HV.out, by omega, HBB.out⟩
def half : Rat := mkRat (sgn false 5) 10
theorem half_neg : ratNeg half = false := by decide
theorem half_num : half.num = 1 := by decide
theorem half_den : half.den = 2 := by decide
theorem dec_one (n : Nat) (h : n < 10) : dec n = [n] := by rw [dec, if_pos h]
theorem half_print : strB (printL half) = ⟨#[49, 47, 50]⟩ := by
  unfold printL bodyL signL dg
  rw [half_neg, half_num, half_den, dec_one _ (by decide), dec_one 2 (by decide)]
  rfl
theorem half_le : RatLe half 1 := by
  refine ⟨?_, ?_⟩
  · rw [half_num, show (1 : Int).natAbs = 1 from rfl, limbs_pos 1 (by decide), show 1 / 4294967296 = 0 by decide, limbs_zero]
    decide
  · rw [half_den, limbs_pos 2 (by decide), show 2 / 4294967296 = 0 by decide, limbs_zero]
    decide
theorem cut_none : Lib.cut [48, 46, 53] [47] = ([48, 46, 53], [], false) := by decide
theorem cut_dot : Lib.cut [48, 46, 53] [46] = ([48], [53], true) := by decide
theorem half_add : (⟨#[48]⟩ : ByteArray) ++ ⟨#[53]⟩ = ⟨#[48, 53]⟩ := by decide
theorem trim_half (w : World) : Calls Tryd.prog 48 #[.string ⟨#[48, 46, 53]⟩, .string ⟨#[45]⟩] w fun e w' => e = .returned (.string ⟨#[48, 46, 53]⟩) ∧ w' = w := Tryd.strings_TrimPrefix ⟨#[48, 46, 53]⟩ ⟨#[45]⟩ w
theorem cut_half (w : World) (m : Int) (hm : w.cell? ⟨0, 0, none⟩ = some (.int .i64 m)) :
    Calls Tryd.prog 49 #[.string ⟨#[48, 46, 53]⟩, .string ⟨#[47]⟩] w fun e w' => e = .returned (.tuple #[.string ⟨#[48, 46, 53]⟩, .string ⟨#[]⟩, .bool false]) ∧ ∃ n, w' = w.drewN n := by
  have h := cut_call [48, 46, 53] 47 w m (by decide) hm
  rw [cut_none] at h
  exact h
theorem cut_half2 (w : World) (m : Int) (hm : w.cell? ⟨0, 0, none⟩ = some (.int .i64 m)) :
    Calls Tryd.prog 49 #[.string ⟨#[48, 46, 53]⟩, .string ⟨#[46]⟩] w fun e w' => e = .returned (.tuple #[.string ⟨#[48]⟩, .string ⟨#[53]⟩, .bool true]) ∧ ∃ n, w' = w.drewN n := by
  have h := cut_call [48, 46, 53] 46 w m (by decide) hm
  rw [cut_dot] at h
  exact h
theorem parse_five (w : World) : Calls Tryd.prog 19 #[.string ⟨#[48, 53]⟩] w fun e w' => ∃ A' n' c', e = .returned (.tuple #[.slice A' n' c', .int .i64 0]) ∧ Num w' A' n' c' (limbs 5) ∧ Below w.heap.size w w' :=
  (parse_any [0, 5] w (by simp) (by decide) (fun y hy => by simp at hy; omega)).mono fun e w' ⟨v, e1, o, b⟩ => by
    rw [show dv [0, 5] = 5 from rfl] at o
    obtain ⟨A', c', rfl, hn⟩ := Num.of (N := 0) o (limbs_small _)
    exact ⟨_, _, _, e1, hn, b⟩
theorem five_len : (limbs 5).length ≤ 10000000 := by
  rw [limbs_pos 5 (by decide), show 5 / 4294967296 = 0 by decide, limbs_zero]
  decide

set_option maxRecDepth 100000 in
set_option maxHeartbeats 4000000 in
theorem parse_half (w : World) (mx : Int) (hm : w.cell? ⟨0, 0, none⟩ = some (.int .i64 mx)) :
    Calls Tryd.prog 22 #[.string ⟨#[48, 46, 53]⟩] w fun e w' => ∃ b : RB, e = .returned (.tuple #[b.val (ratNeg half), .int .i64 0]) ∧ RatAt w' b half ∧ Below w.heap.size w w' := by
  have htr := trim_half
  have hlt0 : 0 < w.heap.size := World.block_lt_of_cell? w _ hm
  have hc1 := fun W hm => cut_half W mx hm
  have hc2 := fun W hm => cut_half2 W mx hm
  have hp1 := parse_five
  unfold RB.val
  have HTR := Lib.hid htr
  have HC1 := Lib.hid hc1
  have HC2 := Lib.hid hc2
  have HP1 := Lib.hid hp1
  have HMX := Lib.hid hm
  have HT := Lib.hid tens_one
  have HADD := Lib.hid half_add
  clear htr hp1 hc1 hc2
  obtain ⟨q, hq⟩ : ∃ q, q = half := ⟨_, rfl⟩
  rw [← hq]
  have HQ := Lib.hid hq
  clear hq
  go_enter Tryd.func22, Tryd.ntmps22
  go_upto_region 1 with fail
  have hr3 := heap_alloc_new w (.cells #[.bool false, .slice none 0 0, .slice none 0 0] 50)
  have hbw := (Below.refl w.heap.size w).alloc (Nat.le_refl _) (.cells #[.bool false, .slice none 0 0, .slice none 0 0] 50)
  obtain ⟨wz, hwz⟩ : ∃ x, x = w.alloc (.cells #[.bool false, .slice none 0 0, .slice none 0 0] 50) := ⟨_, rfl⟩
  rw [← hwz] at hr3 hbw ⊢
  have HR3 := Lib.hid hr3
  have HBW := Lib.hid hbw
  clear hwz hr3 hbw
  go_upto_region 5 with (go_at_call 48; refine (HTR.out _).mono ?_; rintro e w1 ⟨rfl, hw⟩; obtain rfl := hw.symm)
  have hb1 : Below wz.heap.size wz (wz.alloc (.cells #[.int .u32 1] 25)) := (Below.refl _ _).alloc (Nat.le_refl _) _
  have hm1 := ((HBW.out.trans (hb1.mono HBW.out.size)).cell (p := ⟨0, 0, none⟩) hlt0).trans HMX.out
  go_upto_region 6 with fail
  obtain ⟨wa, hwa⟩ : ∃ x, x = wz.alloc (.cells #[.int .u32 1] 25) := ⟨_, rfl⟩
  rw [← hwa] at hb1 hm1 ⊢
  have hcall := HC1.out wa hm1
  have HB1 := Lib.hid hb1
  clear hwa hb1 hm1
  go_upto_region 12 with (go_at_call 49; refine hcall.mono ?_; clear hcall; rintro e w2 ⟨rfl, k2, rfl⟩)
  have hm2 := ((HBW.out.trans ((below_drewN HB1.out k2).mono HBW.out.size)).cell (p := ⟨0, 0, none⟩) hlt0).trans HMX.out
  have hcall := HC2.out (wa.drewN k2) hm2
  clear hm2
  go_upto_region 14 with (go_at_call 49; refine hcall.mono ?_; clear hcall; rintro e w3 ⟨rfl, k3, rfl⟩)
  have hb3 := below_drewN HB1.out (k2 + k3)
  obtain ⟨wt, hwt⟩ : ∃ x, x = wa.drewN (k2 + k3) := ⟨_, rfl⟩
  rw [← hwt] at hb3 ⊢
  have HB3 := Lib.hid hb3
  clear hb3 hwt
  go_upto_region 17 with fail
  rw [HADD.out]
  go_upto_region 18 with (go_at_call 50; refine (HT.out _).mono ?_; rintro e w4 ⟨A3, n3, c3, rfl, L, h3, hv3, hl3, b3⟩)
  have HB4 := Lib.hid (HB3.out.trans (b3.mono HB3.out.size))
  have H3 := Lib.hid h3
  have HV3 := Lib.hid hv3
  clear h3 b3 hv3
  go_upto_region 21 with (go_at_call 19; refine (HP1.out _).mono ?_; rintro e w5 ⟨A4, n4, c4, rfl, h4, b4⟩)
  have hmk := make_any false h4 (H3.out.below b4) five_len (by omega) (by rw [HV3.out]; decide)
  rw [lv_limbs, HV3.out, show mkRat (sgn false 5) 10 = q from HQ.out.symm] at hmk
  unfold RB.val at hmk
  have HBY := Lib.hid (HB4.out.trans (b4.mono HB4.out.size))
  clear h4 b4
  have HMK := Lib.hid hmk
  clear hmk
  go_wp2_with (go_at_call 33; refine HMK.out.mono ?_; rintro e w28 ⟨rb, rfl, hrat, b28'⟩; have b28 := HBY.out.trans (b28'.mono HBY.out.size); have HR5 := Lib.hid ((box_keep (box_keep HR3.out b28) ((Below.refl _ _).alloc (Nat.le_refl _) (.cells #[.bool (ratNeg q), .slice rb.A rb.n rb.c, .slice rb.A2 rb.n2 rb.c2] 50)))); obtain ⟨r0, r1, r2⟩ := Box.of HR5.out; have s0 := frozen_of_blk HR5.out 0; have s1' := frozen_of_blk HR5.out 1; have s2' := frozen_of_blk HR5.out 2; have HRAT := Lib.hid (hrat.alloc (.cells #[.bool (ratNeg q), .slice rb.A rb.n rb.c, .slice rb.A2 rb.n2 rb.c2] 50)); have HB28 := Lib.hid ((HBW.out.trans (b28.mono HBW.out.size)).alloc (Nat.le_trans HBW.out.size b28.size) (.cells #[.bool (ratNeg q), .slice rb.A rb.n rb.c, .slice rb.A2 rb.n2 rb.c2] 50)); clear hrat)
  refine bodyPost_ret (v := .tuple #[.agg #[.bool (ratNeg q), .slice rb.A rb.n rb.c, .slice rb.A2 rb.n2 rb.c2], .int .i64 0]) (by simp [results, Tryd.results22, go_sem, r0, r1, r2]) rfl ?_
  refine ⟨rb, rfl, HRAT.out.fr (S := fun b => b = w.heap.size) (fr_set (fr_set (fr_set (Fr.refl _ _) (.inl rfl)) (.inl rfl)) (.inl rfl)) ?_, bl_set (bl_set (bl_set HB28.out ?_) ?_) ?_⟩
  · intro b i k hb e
    subst hb
    rw [cell_of_blk HR5.out i] at e
    exact no_int3 _ _ _ (by simp) (by simp) (by simp) i k e
  all_goals
    simp
end Go.Proofs.YtlbbbafehhdpnaaDoor
