/- Contract of package digits: Text. -/
import Derived.Test.YtlbbbafehhdpnaaGreatDoorDigGrow
import Derived.Test.YtlbbbafehhdpnaaGreatDoorNatMul
import Derived.Test.YtlbbbafehhdpnaaGreatDoorLongMath3
import Derived.Test.YtlbbbafehhdpnaaGreatDoorLongRow
import Derived.Test.YtlbbbafehhdpnaaGreatDoorMem2
import Derived.Test.YtlbbbafehhdpnaaGreatDoorShelf
import Derived.Deep.LoopGhost
namespace Go.Proofs.YtlbbbafehhdpnaaGreatDoor
open Go.RowKit
set_option linter.unusedVariables false
set_option linter.unusedSimpArgs false

theorem nines_getD (g j t : Nat) (h : t < j) : (nines g j).getD t 0 = g / 10 ^ (j - 1 - t) % 10 := by
  induction j generalizing t with
  | zero => omega
  | succ j ih =>
    cases t with
    | zero => simp [nines]
    | succ t =>
      simp only [nines, List.getD_cons_succ]
      rw [ih t (by omega), show j + 1 - 1 - (t + 1) = j - 1 - t by omega]
theorem nines_take (g t : Nat) (h : t < 9) : (nines g 9).take (t + 1) = (nines g 9).take t ++ [g / 10 ^ (8 - t) % 10] := by
  have hl : t < (nines g 9).length := by rw [nines_len]; exact h
  rw [List.take_succ_eq_append_getElem hl]
  congr 2
  have := nines_getD g 9 t h
  rw [List.getD_eq_getElem?_getD, List.getElem?_eq_getElem hl] at this
  exact this
theorem pow_p (t : Nat) (h : t < 9) : 100000000 / 10 ^ t = 10 ^ (8 - t) ∧ 0 < 100000000 / 10 ^ t ∧ 100000000 / 10 ^ t / 10 = 100000000 / 10 ^ (t + 1) ∧ 100000000 / 10 ^ t ≤ 100000000 := by
  rcases (show t = 0 ∨ t = 1 ∨ t = 2 ∨ t = 3 ∨ t = 4 ∨ t = 5 ∨ t = 6 ∨ t = 7 ∨ t = 8 by omega) with rfl | rfl | rfl | rfl | rfl | rfl | rfl | rfl | rfl <;> decide
/-- digits as bytes. -/
def bd (l : List Nat) : List Value := bytes8 (l.map fun d => ((48 + d : Nat) : Int))
theorem bd_append (a b : List Nat) : bd (a ++ b) = bd a ++ bd b := by simp [bd, bytes8]
theorem bd_str (l : List Nat) : strOf (l.map fun d => ((48 + d : Nat) : Int)) = txt l := by
  unfold strOf txt
  rw [List.map_map]
  rfl
theorem txt_trim (l : List Nat) (h : small10 l) : (⟨(Lib.trimLeftB (txt l).data.toList 48).toArray⟩ : ByteArray) = txt (trim0 l) := by
  unfold txt
  congr 1
  congr 1
  simp only [Lib.trimLeftB]
  induction l with
  | nil => rfl
  | cons d l ih =>
    obtain ⟨h1, h2⟩ := small10_cons.1 h
    have ih' := ih h2
    simp only [List.map_cons, List.dropWhile_cons, trim0]
    by_cases h0 : d = 0
    · subst h0
      simpa using ih'
    · have hne : (UInt8.ofNat (48 + d) == 48) = false := by
        rw [beq_eq_false_iff_ne]
        intro e
        have := congrArg UInt8.toNat e
        rw [UInt8.toNat_ofNat'] at this
        have e2 : (48 : UInt8).toNat = 48 := rfl
        rw [e2] at this
        omega
      rw [hne, if_neg h0]
      simp
theorem groups_bound (M N k r n : Nat) (hM : 0 < M) (h : M * 1000000000 ^ k + r = N) (hN : N < 2 ^ (32 * n)) : k ≤ 32 * n := by
  have h1 : 1 * 1000000000 ^ k ≤ M * 1000000000 ^ k := Nat.mul_le_mul_right _ hM
  have h2 : 2 ^ k ≤ 1000000000 ^ k := Nat.pow_le_pow_left (by decide) k
  have h3 : 2 ^ k < 2 ^ (32 * n) := by omega
  exact Nat.le_of_lt ((Nat.pow_lt_pow_iff_right (by decide)).1 h3)
theorem group_step (M k G N : Nat) (h : M * 1000000000 ^ k + G = N) : M / 1000000000 * 1000000000 ^ (k + 1) + (G + 1000000000 ^ k * (M % 1000000000)) = N := by
  have e := Nat.div_add_mod M 1000000000
  generalize M / 1000000000 = q at *
  generalize M % 1000000000 = r at *
  rw [← h, ← e, Nat.pow_succ, Nat.add_mul]
  generalize 1000000000 ^ k = P at *
  have e1 : q * (P * 1000000000) = 1000000000 * q * P := by rw [Nat.mul_comm P, ← Nat.mul_assoc, Nat.mul_comm q]
  have e2 : P * r = r * P := Nat.mul_comm _ _
  omega

set_option maxRecDepth 100000 in
set_option maxHeartbeats 4000000 in
theorem text_any (xs : List Nat) (A : Option Addr) (n c : Nat) (w : World) (hl : xs.length = n) (hnc : n ≤ c) (hn : n ≤ 1000000000) (hr : Rd w 1 A n (lw xs)) (hs : small xs) :
    Calls Tryz.prog 69 #[.slice A n c] w fun e w' => e = .returned (.string (txt (dec (lv xs)))) ∧ Below w.heap.size w w' := by
  obtain ⟨i0, hi, hz0, hz1, hz2⟩ := info_parts info_u32
  obtain ⟨j0, hj, hy0, hy1, hy2⟩ := info_parts info_u8
  have hN1 := norm_any xs A n c w hl hnc (by omega) hr hs
  have hlen := Nat.le_trans (limbs_length_le xs hs) (Nat.le_of_eq hl)
  have hlt := lv_lt xs hs
  rw [hl] at hlt
  generalize lv xs = N at *
  have HNB := Lib.hid hlt
  have HLEN := Lib.hid hlen
  clear hr hs hlt hlen hl
  by_cases h0 : N = 0
  · subst h0
    rw [limbs_zero] at hN1
    have hdec : dec 0 = [0] := by rw [dec, if_pos (by decide)]
    have HD := Lib.hid hdec
    clear hdec
    go_enter Tryz.func69, Tryz.ntmps69
    go_wp2_with (go_at_call 35; refine hN1.mono ?_; clear hN1; rintro e w1 ⟨v1, rfl, ho1, hb1⟩; obtain ⟨A1, c1, rfl, _, _⟩ := ownsRow_form ho1)
    go_ret
    exact ⟨by rw [HD.out] <;> rfl, hb1⟩
  · have hpos := (limbs_top N h0).1
    have hN0 : 0 < N := by omega
    have HN0 := Lib.hid hN0
    obtain ⟨l0, hl0⟩ : ∃ l0, (limbs N).length = l0 := ⟨_, rfl⟩
    rw [hl0] at hN1 hpos
    have hz0' : ((l0 : Int) == 0) = false := by rw [beq_eq_false_iff_ne]; omega
    have HL0 := Lib.hid hl0
    clear h0 hN0 hl0
    go_enter Tryz.func69, Tryz.ntmps69
    go_upto_region 5 with (go_at_call 35; refine hN1.mono ?_; clear hN1; rintro e w1 ⟨v1, rfl, ho1, hb1⟩; obtain ⟨A1, c1, rfl, _, _⟩ := ownsRow_form ho1)
    have HO1 := Lib.hid ho1
    have HB1 := Lib.hid hb1
    clear ho1 hb1 hpos
    go_wp2_with fail
    go_loopg [0, 3] N (fun γ a gs wr => ∃ (M : Nat) (L : List Nat), γ = M ∧ M * 1000000000 ^ L.length + gvl L = N ∧ (∀ g ∈ L, g < 1000000000) ∧ L.length ≤ 32 * n + 1 ∧ M ≤ N ∧ wr.ownsRow w.heap.size 92 1 a (limbs M).length (lw (limbs M)) ∧ wr.ownsRow w.heap.size 92 1 gs L.length (lw L) ∧ Below w.heap.size w wr)
    case atStart => exact ⟨N, [], rfl, by simp [gvl], by simp, Nat.zero_le _, Nat.le_refl _, by rw [HL0.out]; exact HO1.out, World.ownsRow_nil _ _ _ _, HB1.out⟩
    case round =>
      obtain ⟨M, L, hMe, hval, hsm, hLb, hMN, ha, hg, hb⟩ := hrel
      have hMe' := hMe.symm
      subst hMe'
      clear hMe
      have hml := Nat.le_trans (limbs_len_mono M N hMN) HLEN.out
      obtain ⟨la, hla⟩ : ∃ la, (limbs M).length = la := ⟨_, rfl⟩
      rw [hla] at ha hml
      by_cases hM : M = 0
      · subst hM
        rw [limbs_zero] at hla
        obtain rfl : la = 0 := by simpa using hla.symm
        obtain ⟨A2, c2, rfl, _, _⟩ := ownsRow_form ha
        obtain ⟨A3, c3, rfl, hc3, hrg⟩ := ownsRow_form hg
        rw [Nat.zero_mul, Nat.zero_add] at hval
        obtain ⟨G, hG⟩ : ∃ G, L.length = G := ⟨_, rfl⟩
        rw [hG] at hrg hc3
        have hGb : G ≤ 40000000000 := by omega
        have hsmL : small L := fun g hg => by have := hsm g hg; omega
        obtain ⟨w5, rfl⟩ : ∃ x, x = wr := ⟨_, rfl⟩
        have HRG := Lib.hid hrg
        have HG := Lib.hid hG
        have HVAL := Lib.hid hval
        have HSM := Lib.hid hsm
        have HSL := Lib.hid hsmL
        have HB := Lib.hid hb
        clear hrg hval hsm hsmL hb hg ha hla
        go_wp2_with fail
        rw [hG]
        clear hG
        go_loopw [7, 8] (fun bv x wx => ∃ k : Nat, k ≤ G ∧ x = .int .i64 (((G - k : Nat) : Int) - 1) ∧ wx.ownsRow w5.heap.size 5 1 bv (9 * k) (bd (allNines (L.drop (G - k)))) ∧ Below w5.heap.size w5 wx) (fun _ x _ => (intOf x + 1).toNat)
        case atStart => exact ⟨0, Nat.zero_le _, by simp, by rw [List.drop_of_length_le (by rw [HG.out]; omega)]; exact World.ownsRow_nil _ _ _ _, Below.refl _ _⟩
        case round =>
          obtain ⟨k, hk, rfl, hown, hbw⟩ := hrel
          by_cases hlt : k < G
          · obtain ⟨i, hi'⟩ : ∃ i, G - k = i + 1 := ⟨G - (k + 1), by omega⟩
            have hi2 : G - (k + 1) = i := by omega
            have em : ((G - k : Nat) : Int) - 1 = (i : Int) := by omega
            have hiG : i < G := by omega
            rw [em]
            rw [hi'] at hown
            have hdr := allNines_drop L i (by rw [HG.out]; omega)
            obtain ⟨b3, o3, rfl, x0⟩ := (HRG.out.below hbw).limb i (by omega) HG.out
            have hx32 := getD_lt HSL.out i
            have hPl := allNines_len (L.drop (i + 1))
            rw [List.length_drop, HG.out, show G - (i + 1) = k by omega] at hPl
            obtain ⟨g, hgx⟩ : ∃ g, L.getD i 0 = g := ⟨_, rfl⟩
            rw [hgx] at hdr x0 hx32
            have HX := Lib.hid hgx
            clear hgx
            generalize allNines (L.drop (i + 1)) = PP at *
            have HDR := Lib.hid hdr
            have HOWN := Lib.hid hown
            have HBW := Lib.hid hbw
            have HI2 := Lib.hid hi2
            have HPL := Lib.hid hPl
            clear hdr hown hbw em hi' hi2 hPl
            go_wp2_with fail
            go_loopw [7, 9] (fun bv p wx => ∃ t : Nat, t ≤ 9 ∧ p = .int .u32 ((100000000 / 10 ^ t : Nat) : Int) ∧ wx.ownsRow w5.heap.size 5 1 bv (9 * k + t) (bd (PP ++ (nines g 9).take t)) ∧ Below w5.heap.size w5 wx) (fun _ p _ => (intOf p).toNat)
            case atStart => exact ⟨0, Nat.zero_le _, rfl, by rw [List.take_zero, List.append_nil, Nat.add_zero]; exact HOWN.out, HBW.out⟩
            case round =>
              obtain ⟨t, ht, rfl, hown, hbw⟩ := hrel
              by_cases hlt9 : t < 9
              · obtain ⟨p1, p2, p3, p4⟩ := pow_p t hlt9
                obtain ⟨b3', o3', e3, x0⟩ := (HRG.out.below hbw).limb i (by omega) HG.out
                injection e3 with e3
                injection e3 with e3 e3'
                subst e3; subst e3'
                rw [HX.out] at x0
                have htk := nines_take g t hlt9
                rw [← p1] at htk
                obtain ⟨p, hp⟩ : ∃ p, 100000000 / 10 ^ t = p := ⟨_, rfl⟩
                rw [hp] at p2 p3 p4 htk ⊢
                obtain ⟨D, hD⟩ : ∃ D, g / p = D := ⟨_, rfl⟩
                have hDg : D ≤ g := by rw [← hD]; exact Nat.div_le_self _ _
                rw [hD] at htk
                have hwq : IntKind.u32.wrap ((g : Int) / (p : Int)) = (D : Int) := by
                  rw [show (g : Int) / (p : Int) = (D : Int) by rw [← hD]; rfl, IntKind.wrap_u32]; omega
                have hq2 : (g : Int) / (p : Int) = (D : Int) := by rw [← hD]; rfl
                have hp0 : ¬ (p = 0) := by omega
                have hpg : (p : Int) > 0 := by omega
                have HTK := Lib.hid htk
                have HP3 := Lib.hid p3
                have HB2 := Lib.hid hbw
                have HO2 := Lib.hid hown
                clear htk p1 p3 hbw hown hp hD
                go_wp2_with (at_builtin; refine app1 w5.heap.size w5 wr _ 5 rfl _ _ 110 rfl j0 (.int .u8 0) 1 Tryz.underlying110 hj hy0 hy1 hy2 rfl (by decide) _ (9 * k + t) _ rfl (Nat.le_refl _) HO2.out HB2.out rfl rfl (by omega) ?_)
                intro v6 w6 hown6 hb6 hg6
                have HO6 := Lib.hid hown6
                have HB6 := Lib.hid hb6
                clear hown6 hb6 hg6
                go_wp2_with fail
                refine ⟨⟨t + 1, by omega, by rw [← HP3.out]; rfl, ?_, HB6.out⟩, by simp [intOf]; omega⟩
                rw [HTK.out, ← List.append_assoc, bd_append]
                exact HO6.out
              · obtain rfl : t = 9 := by omega
                have e9 : ((100000000 / 10 ^ 9 : Nat) : Int) = 0 := by decide
                rw [e9]
                rw [List.take_of_length_le (by rw [nines_len]; omega), ← HDR.out] at hown
                have HO2 := Lib.hid hown
                have HB2 := Lib.hid hbw
                clear hown hbw e9
                go_wp2_with fail
                go_roundw
                case rel => exact ⟨k + 1, by omega, by rw [HI2.out], by rw [HI2.out]; exact HO2.out, HB2.out⟩
                case measure => first | (simp [intOf]; done) | (simp [intOf]; omega)
          · obtain rfl : k = G := by omega
            have e0 : ((k - k : Nat) : Int) - 1 = -1 := by omega
            rw [e0]
            rw [Nat.sub_self, List.drop_zero] at hown
            have hdv := dv_allNines L HSM.out
            rw [HVAL.out] at hdv
            have hs10 := allNines_small L
            have htr := dec_trim0 (allNines L) hs10 (by rw [hdv]; exact HN0.out)
            rw [hdv] at htr
            have hal := allNines_len L
            obtain ⟨A7, c7, rfl, hc7, hr7⟩ := ownsRow_form hown
            have hbl : ((allNines L).map fun d => ((48 + d : Nat) : Int)).length = 9 * k := by rw [List.length_map, hal, HG.out]
            have hcv := run_str (P := Tryz.prog) (c := c7) 110 9 5 Tryz.underlying110 Tryz.underlying5 Tryz.underlying9 hbl hr7 (by
              intro x hx
              obtain ⟨d, hd, rfl⟩ := List.mem_map.1 hx
              have := hs10 d hd
              omega)
            rw [bd_str] at hcv
            have htm := Tryz.strings_TrimLeft_one (txt (allNines L)) 48 (by decide) wr
            rw [txt_trim _ hs10, htr] at htm
            have HTM := Lib.hid htm
            have HB2 := Lib.hid (HB.out.trans (hbw.mono HB.out.size))
            clear htm hown hbw hdv hs10 htr hal hbl e0
            go_wp2_with (go_at_call 81; refine HTM.out.mono ?_; rintro e w8 ⟨rfl, hw⟩; obtain rfl := hw.symm; clear hw)
            go_ret
            exact ⟨rfl, HB2.out⟩
      · have hM0 : 0 < M := by omega
        have hlp := (limbs_top M hM).1
        rw [hla] at hlp
        have hkb := groups_bound M N L.length _ n hM0 hval HNB.out
        obtain ⟨A2, c2, rfl, hc2, hr2⟩ := ownsRow_form ha
        have hdw := divw_any (limbs M) A2 la c2 1000000000 wr hla hc2 (by omega) hr2 (limbs_small M) (by decide) (by decide)
        rw [lv_limbs, show ((1000000000 : Nat) : Int) = 1000000000 from rfl] at hdw
        have hvs := group_step M L.length (gvl L) N hval
        have hml2 : M / 1000000000 < M := Nat.div_lt_self hM0 (by decide)
        have hmd : M % 1000000000 < 1000000000 := Nat.mod_lt _ (by decide)
        obtain ⟨Q, hQ⟩ : ∃ Q, M / 1000000000 = Q := ⟨_, rfl⟩
        obtain ⟨R, hR⟩ : ∃ R, M % 1000000000 = R := ⟨_, rfl⟩
        rw [hQ] at hvs hml2 hdw
        rw [hR] at hvs hmd hdw
        have HG := Lib.hid hg
        have HB := Lib.hid hb
        have HDW := Lib.hid hdw
        have HVS := Lib.hid hvs
        have HSM := Lib.hid hsm
        clear ha hg hb hdw hvs hval hr2 hQ hR hsm hla
        go_upto_region 7 with (go_at_call 72; refine HDW.out.mono ?_; rintro e w2 ⟨v2, rfl, ho2, hb2⟩)
        have hg2 := own_below HG.out hb2
        have hb2' := HB.out.trans (hb2.mono HB.out.size)
        have HO2 := Lib.hid ho2
        have HB2 := Lib.hid hb2'
        have HG2 := Lib.hid hg2
        clear ho2 hb2 hb2' hg2
        go_wp2_with (at_builtin; refine app1 w.heap.size w w2 (.int .u32 (R : Int)) 92 rfl _ _ 31 rfl i0 (.int .u32 0) 4 Tryz.underlying31 hi hz0 hz1 hz2 rfl (by decide) _ L.length _ rfl (Nat.le_refl _) HG2.out HB2.out rfl rfl (by omega) ?_)
        intro v3 w3 hown3 hb3 hg3
        have hq3 := (Fr.of_grown (S := fun b => Value.ownBlock _ = some b) hg3 (fun k hk => .inl hk)).own HO2.out (fun b hb1 hb2 => by have e1 := own_lt HO2.out hb1; have e2 := own_lt HG.out hb2; omega)
        have HOWN3 := Lib.hid hown3
        have HQ3 := Lib.hid hq3
        have HB3 := Lib.hid hb3
        clear hown3 hb3 hg3 hq3
        go_wp2_with fail
        go_roundg Q
        case measure => omega
        case rel => exact ⟨Q, L ++ [R], rfl, by rw [gvl_append, List.length_append]; exact HVS.out, by intro g hg; rcases List.mem_append.1 hg with h | h; exact HSM.out g h; simp at h; omega, by rw [List.length_append, List.length_singleton]; omega, by omega, own_more HQ3.out HB.out.size, by rw [lw_append, List.length_append]; exact HOWN3.out, HB3.out⟩
end Go.Proofs.YtlbbbafehhdpnaaGreatDoor
