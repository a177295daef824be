/- The walks of the laws BitsVars and BitsPacks over the contracts. -/
import Derived.Test.YtffpjnabbmimgaaBitsV3
namespace Go.Proofs.Ytffpjnabbmimgaa
open Go.RowKit

theorem one8 (l : List Int) : ∀ u ∈ bytes8 l, u.oneCell' = true := by
  intro u hu
  obtain ⟨x, _, rfl⟩ := List.mem_map.1 hu
  rfl
theorem one64 (l : List Nat) : ∀ u ∈ words l, u.oneCell' = true := by
  intro u hu
  obtain ⟨x, _, rfl⟩ := List.mem_map.1 hu
  rfl
theorem vint_bytes (u : Nat) : ∀ x ∈ vint u, 0 ≤ x ∧ x ≤ 255 := by
  induction u using Nat.strongRecOn with
  | _ u ih =>
    intro x hx
    by_cases hu : u < 128
    · rw [vint_small u hu] at hx; simp at hx; omega
    · rw [vint_big u (by omega)] at hx
      rcases List.mem_cons.1 hx with rfl | hx
      · omega
      · exact ih (u / 128) (by omega) x hx
theorem u8_bounds {xs : List Int} (h : ∀ x ∈ xs, (Lit.int .u8 x).wf = true) : ∀ x ∈ xs, 0 ≤ x ∧ x ≤ 255 := fun x hx => b_u8 (h x hx)
theorem nats_of {xs : List Int} (h : ∀ x ∈ xs, (Lit.int .u64 x).wf = true) : ∃ us : List Nat, xs = us.map (fun (u : Nat) => (u : Int)) ∧ ∀ u ∈ us, u < 18446744073709551616 := by
  refine ⟨xs.map Int.toNat, ?_, ?_⟩
  · rw [List.map_map]
    symm
    calc xs.map _ = xs.map id := List.map_congr_left fun x hx => by have := b_u64 (h x hx); simp; omega
      _ = xs := List.map_id xs
  · intro u hu
    obtain ⟨x, hx, rfl⟩ := List.mem_map.1 hu
    have := b_u64 (h x hx)
    omega

set_option maxHeartbeats 1000000 in
theorem w_vars (a0 : Int) (w0 : (Lit.int .u64 a0).wf = true) (A : Option Addr) (n c : Nat) (xs : List Int) (hl : xs.length = n) (hnc : n ≤ c) (hb : c * 1 ≤ 140737488351232) (w : World) (hrd : Rd w 1 A n (xs.map (Value.int .u8))) (hwf : ∀ x ∈ xs, (Lit.int .u8 x).wf = true) :
    Calls Try.prog 8 #[.int .u64 a0, .slice A n c] w fun e w' => e = .returned (.bool true) ∧ Below w.heap.size w w' := by
  obtain ⟨h1, h2⟩ := b_u64 w0
  clear w0
  obtain ⟨U, rfl⟩ := Int.eq_ofNat_of_zero_le h1
  have hU : U < 18446744073709551616 := by omega
  have hwb := u8_bounds hwf
  obtain ⟨i0, hi, hz0, hz1, hz2⟩ := info_parts info_u8
  have hlen := vint_length64 U hU
  have hrun := unv_vint U [200, 7] hU
  have hvb := vint_bytes U
  have hnpos := vint_pos U
  have c1 := Lib.hid (fun W => varint_any U W hU)
  have c2 := Lib.hid (fun W => rvarint_any U W hU)
  have HRD := Lib.hid hrd
  have HWB := Lib.hid hwb
  have HRU := Lib.hid hrun
  have HVB := Lib.hid hvb
  have hub := unv_bound xs fun x hx => (hwb x hx).1
  generalize hL : vint U = L at *
  clear hL hrd hwf hwb h1 h2 hU hrun hvb
  go_enter Try.func8, Try.ntmps8
  go_wp2_with fail
  refine (c1.out _).mono ?_
  rintro e w1 ⟨v, rfl, hown, hb1⟩
  obtain ⟨Av, cv, rfl, hcv, hrv⟩ := ownsRow_form hown
  go_wp2_with (at_builtin; refine appR w1.heap.size w1 (w1.alloc (.cells #[] 5)) 5 rfl _ _ 39 rfl i0 (.int .u8 0) 1 Try.underlying39 hi hz0 hz1 hz2 rfl (by decide) _ 0 [] rfl (Nat.le_refl _) (own_empty _ _ _ (Nat.le_refl _)) ((Below.refl _ _).alloc (Nat.le_refl _) _) Av L.length cv (bytes8 L) rfl (hrv.alloc _) (one8 L) (by omega) ?_)
  intro v2 w2 hown2 hb2 _
  go_wp2_with (at_builtin; refine appR w1.heap.size w1 (w2.alloc (.cells #[.int .u8 200, .int .u8 7] 5)) 5 rfl _ _ 39 rfl i0 (.int .u8 0) 1 Try.underlying39 hi hz0 hz1 hz2 rfl (by decide) _ L.length (bytes8 L) rfl (Nat.le_refl _) (hown2.alloc _) (hb2.alloc hb2.size _) (some ⟨w2.heap.size, 0, none⟩) 2 2 (bytes8 [200, 7]) rfl (rd_lit w2 _ _) (one8 _) (by omega) ?_)
  intro v3 w3 hown3 hb3 _
  rw [← bytes8_append] at hown3
  obtain ⟨A3, c3, rfl, hc3, hr3⟩ := ownsRow_form hown3
  have hcall3 := Lib.hid (unvar_any (L ++ [200, 7]) A3 (L.length + 2) c3 w3 (by simp) (by omega) hr3 (fun x hx => by
    rcases List.mem_append.1 hx with hx | hx
    · exact HVB.out x hx
    · simp at hx; omega))
  rw [HRU.out] at hcall3
  have hown' := own_below hown hb3
  have hb13 : Below w.heap.size w w3 := hb1.trans (hb3.mono hb1.size)
  have HRD3 := Lib.hid (HRD.out.below hb13)
  clear hown2 hb2 hown3 hr3 hrv hown hb1 hb3
  go_wp2_with fail
  refine hcall3.out.mono ?_
  rintro e w' ⟨rfl, rfl⟩
  clear hcall3
  go_wp2_with (at_builtin; refine appR w3.heap.size w3 (w3.alloc (.cells #[] 5)) 5 rfl _ _ 39 rfl i0 (.int .u8 0) 1 Try.underlying39 hi hz0 hz1 hz2 rfl (by decide) _ 0 [] rfl (Nat.le_refl _) (own_empty _ _ _ (Nat.le_refl _)) ((Below.refl _ _).alloc (Nat.le_refl _) _) A n c (bytes8 xs) rfl (HRD3.out.alloc _) (one8 _) (by omega) ?_)
  intro v4 w4 hown4 hb4 _
  obtain ⟨A4, c4, rfl, hc4, hr4⟩ := ownsRow_form hown4
  have hcall4 := Lib.hid (unvar_any xs A4 n c4 w4 hl (by omega) hr4 HWB.out)
  have HRD4 := Lib.hid (HRD3.out.below hb4)
  have hown4' := own_below hown' hb4
  have hb14 : Below w.heap.size w w4 := hb13.trans (hb4.mono hb13.size)
  clear hown4 hr4 hown' hb4 hb13 HRD3
  go_wp2_with fail
  refine hcall4.out.mono ?_
  rintro e w' ⟨rfl, rfl⟩
  clear hcall4
  have hcall5 := Lib.hid (runvar_any xs A n c w4 hl hnc (by omega) HRD4.out HWB.out)
  go_wp2_with fail
  refine hcall5.out.mono ?_
  rintro e w5 ⟨rfl, hb5⟩
  have hown5 := own_below hown4' hb5
  have hb15 : Below w.heap.size w w5 := hb14.trans (hb5.mono hb14.size)
  clear hcall5 hown4' hb5 hb14 HRD4
  go_wp2_with fail
  refine (awake_any _).mono ?_
  rintro e w' ⟨rfl, rfl⟩
  go_wp2_with fail
  refine (c2.out _).mono ?_
  rintro e w6 ⟨v6, rfl, hown6, hb6⟩
  obtain ⟨A6, c6, rfl, hc6, hr6⟩ := ownsRow_form hown6
  have hown7 := own_below hown5 hb6
  obtain ⟨A7, c7, hv7, hc7, hr7⟩ := ownsRow_form hown7
  injection hv7 with hA7 _ hc7'
  subst hA7; subst hc7'
  have hs := same_any L L Av A6 L.length L.length cv c6 w6 rfl rfl (by omega) (by omega) hr7 hr6
  have hd : decide (L = L) = true := by simp
  rw [hd] at hs
  have HS := Lib.hid hs
  clear hs hd hown5 hown6 hown7 hr6 hr7
  generalize (unv xs).1 = P1 at *
  generalize (unv xs).2 = P2 at *
  go_wp2_with fail
  refine HS.out.mono ?_
  rintro e w7 ⟨rfl, q, rfl⟩
  go_wp2_with fail
  go_ret
  exact ⟨rfl, below_drewN (hb15.trans (hb6.mono hb15.size)) q⟩

set_option maxHeartbeats 1000000 in
theorem w_packs (A0 : Option Addr) (n0 c0 : Nat) (xs0 : List Int) (hl0 : xs0.length = n0) (hnc0 : n0 ≤ c0) (hb0 : c0 ≤ 1048576) (w : World) (hrd0 : Rd w 1 A0 n0 (xs0.map (Value.int .u64))) (hwf0 : ∀ x ∈ xs0, (Lit.int .u64 x).wf = true)
    (A : Option Addr) (n c : Nat) (xs : List Int) (hl : xs.length = n) (hnc : n ≤ c) (hb : c ≤ 1048576) (hrd : Rd w 1 A n (xs.map (Value.int .u8))) (hwf : ∀ x ∈ xs, (Lit.int .u8 x).wf = true) :
    Calls Try.prog 10 #[.slice A0 n0 c0, .slice A n c] w fun e w' => e = .returned (.bool true) ∧ Below w.heap.size w w' := by
  obtain ⟨us, rfl, hus⟩ := nats_of hwf0
  have hwb := u8_bounds hwf
  have hw0 : (us.map (fun (u : Nat) => (u : Int))).map (Value.int .u64) = words us := by simp [words]
  rw [hw0] at hrd0
  rw [List.length_map] at hl0
  have hplen := packs_length us hus
  have hpk := unpk_packs us hus
  have hpb : ∀ x ∈ packs us, 0 ≤ x ∧ x ≤ 255 := by
    intro x hx
    obtain ⟨u, _, hx⟩ := List.mem_flatMap.1 hx
    exact vint_bytes u x hx
  have hsnoc := fun k h => packs_snoc us k h
  have htl : ∀ k, (packs (us.take k)).length ≤ 10 * k := fun k => by
    have := packs_length (us.take k) (fun u hu => hus u (List.mem_of_mem_take hu))
    rw [List.length_take] at this
    omega
  obtain ⟨i0, hi, hz0, hz1, hz2⟩ := info_parts info_u8
  obtain ⟨j0, hj, hy0, hy1, hy2⟩ := info_parts info_u64
  have HRD := Lib.hid hrd
  have HRD0 := Lib.hid hrd0
  have HWB := Lib.hid hwb
  have HUS := Lib.hid hus
  have HPB := Lib.hid hpb
  have HPK := Lib.hid hpk
  have HSN := Lib.hid hsnoc
  have HTL := Lib.hid htl
  clear hrd hrd0 hwf hwb hwf0 hus hpb hpk hsnoc htl hw0
  go_enter Try.func10, Try.ntmps10
  go_wp2_with (at_builtin; refine appR w.heap.size w (w.alloc (.cells #[] 22)) 22 rfl _ _ 49 rfl j0 (.int .u64 0) 8 Try.underlying49 hj hy0 hy1 hy2 rfl (by decide) _ 0 [] rfl (Nat.le_refl _) (own_empty _ _ _ (Nat.le_refl _)) ((Below.refl _ _).alloc (Nat.le_refl _) _) A0 n0 c0 (words us) rfl (HRD0.out.alloc _) (one64 _) (by omega) ?_)
  intro v1 w1 hown1 hb1 _
  obtain ⟨A1, c1, rfl, hc1, hr1⟩ := ownsRow_form hown1
  have hcall := Lib.hid (pack_any us A1 n0 c1 w1 hl0 (by omega) hr1 HUS.out)
  clear hown1 hr1
  go_wp2_with fail
  refine hcall.out.mono ?_
  rintro e w2 ⟨v2, rfl, hown2, hb2⟩
  have hb12 := hb1.trans (hb2.mono hb1.size)
  have HRD02 := Lib.hid (HRD0.out.below hb12)
  clear hcall hb1 hb2
  go_wp2_with fail
  go_loopw [6, 22] (fun o i wr => ∃ k : Nat, k ≤ n0 ∧ i = .int .i64 k ∧ wr.ownsRow w2.heap.size 5 1 o (packs (us.take k)).length (bytes8 (packs (us.take k))) ∧ Below w2.heap.size w2 wr) (fun _ i _ => n0 - (intOf i).toNat)
  case atStart => exact ⟨0, Nat.zero_le _, rfl, own_empty _ _ _ (Nat.le_refl _), (Below.refl _ _).alloc (Nat.le_refl _) _⟩
  case round =>
    obtain ⟨k, hk, rfl, hownk, hbk⟩ := hrel
    by_cases hlt : k < n0
    · obtain ⟨b4, o4, u4, rfl, hu4, hc4⟩ := (HRD02.out.below hbk).at_ hlt
      rw [words_get us k (by omega)] at hu4
      injection hu4 with hu4
      have hx := HUS.out us[k] (List.getElem_mem _)
      have hs := Lib.hid (HSN.out k (by omega))
      have hle := HTL.out k
      generalize us[k] = X at *
      subst hu4
      have hcall := Lib.hid (rvarint_any X wr hx)
      have hvl := vint_length64 X hx
      go_wp2_with fail
      refine hcall.out.mono ?_
      rintro e w3 ⟨v3, rfl, hown3, hb3⟩
      obtain ⟨A3, c3, rfl, hc3, hr3⟩ := ownsRow_form hown3
      have hownk' := own_below hownk hb3
      have hbk' := hbk.trans (hb3.mono hbk.size)
      clear hcall hown3 hb3 hownk hbk
      go_wp2_with (at_builtin; refine appR w2.heap.size w2 w3 5 rfl _ _ 39 rfl i0 (.int .u8 0) 1 Try.underlying39 hi hz0 hz1 hz2 rfl (by decide) _ (packs (us.take k)).length (bytes8 (packs (us.take k))) rfl (Nat.le_refl _) hownk' hbk' A3 _ c3 (bytes8 (vint X)) rfl hr3 (one8 _) (by omega) ?_)
      intro v5 w5 hown5 hb5 _
      clear hownk' hbk' hr3
      go_wp2_with fail
      go_roundw
      case rel => exact ⟨k + 1, by omega, by go_num, by rw [hs.out, bytes8_append, List.length_append]; exact hown5, hb5⟩
      case measure => simp [intOf]; omega
    · obtain rfl : k = n0 := by omega
      rw [List.take_of_length_le (by omega)] at hownk
      have hown2' := own_below hown2 hbk
      have hb13 := hb12.trans (hbk.mono hb12.size)
      obtain ⟨Aw, cw, rfl, hcw, hrw⟩ := ownsRow_form hownk
      obtain ⟨Ap, cp, rfl, hcp, hrp⟩ := ownsRow_form hown2'
      generalize packs us = P at *
      clear hown2 hbk hb12 HSN HTL
      go_wp2_with (at_builtin; refine appR wr.heap.size wr (wr.alloc (.cells #[] 5)) 5 rfl _ _ 39 rfl i0 (.int .u8 0) 1 Try.underlying39 hi hz0 hz1 hz2 rfl (by decide) _ 0 [] rfl (Nat.le_refl _) (own_empty _ _ _ (Nat.le_refl _)) ((Below.refl _ _).alloc (Nat.le_refl _) _) Ap P.length cp (bytes8 P) rfl (hrp.alloc _) (one8 _) (by omega) ?_)
      intro v6 w6 hown6 hb6 _
      obtain ⟨A6, c6, rfl, hc6, hr6⟩ := ownsRow_form hown6
      have hcall := Lib.hid (unpack_any P A6 P.length c6 w6 rfl hc6 (by omega) hr6 HPB.out)
      have hrp6 := hrp.below hb6
      have hrw6 := hrw.below hb6
      have hb16 := hb13.trans (hb6.mono hb13.size)
      clear hown6 hr6 hrp hrw hb6 hb13 hownk hown2'
      go_wp2_with fail
      refine hcall.out.mono ?_
      rw [HPK.out]
      rintro e w7 ⟨v7, rfl, hown7, hb7⟩
      obtain ⟨A7, c7, rfl, hc7, hr7⟩ := ownsRow_form hown7
      have hrp7 := hrp6.below hb7
      have hrw7 := hrw6.below hb7
      have hb17 := hb16.trans (hb7.mono hb16.size)
      have HRD7 := Lib.hid (HRD.out.below hb17)
      clear hcall hown7 hrp6 hrw6 hb7 hb16
      go_wp2_with (at_builtin; refine appR w7.heap.size w7 (w7.alloc (.cells #[] 5)) 5 rfl _ _ 39 rfl i0 (.int .u8 0) 1 Try.underlying39 hi hz0 hz1 hz2 rfl (by decide) _ 0 [] rfl (Nat.le_refl _) (own_empty _ _ _ (Nat.le_refl _)) ((Below.refl _ _).alloc (Nat.le_refl _) _) A n c (bytes8 xs) rfl (HRD7.out.alloc _) (one8 _) (by omega) ?_)
      intro v8 w8 hown8 hb8 _
      obtain ⟨A8, c8, rfl, hc8, hr8⟩ := ownsRow_form hown8
      have hcall := Lib.hid (unpack_any xs A8 n c8 w8 hl hc8 (by omega) hr8 HWB.out)
      have hrp8 := hrp7.below hb8
      have hrw8 := hrw7.below hb8
      have hr78 := hr7.below hb8
      have hb18 := hb17.trans (hb8.mono hb17.size)
      clear hown8 hr8 hrp7 hrw7 hr7 hb8 hb17 HRD7
      go_wp2_with fail
      refine hcall.out.mono ?_
      rintro e w9 ⟨v9, rfl, hown9, hb9⟩
      obtain ⟨A9, c9, rfl, hc9, hr9⟩ := ownsRow_form hown9
      have hrp9 := hrp8.below hb9
      have hrw9 := hrw8.below hb9
      have hr79 := hr78.below hb9
      have hb19 := hb18.trans (hb9.mono hb18.size)
      have HRD9 := Lib.hid (HRD.out.below hb19)
      clear hcall hown9 hrp8 hrw8 hr78 hb9 hb18
      have hcall := Lib.hid (runpack_any xs A n c w9 hl hnc (by omega) HRD9.out HWB.out)
      go_wp2_with fail
      refine hcall.out.mono ?_
      rintro e w10 ⟨v10, rfl, hown10, hb10⟩
      obtain ⟨A10, c10, rfl, hc10, hr10⟩ := ownsRow_form hown10
      have hrp10 := hrp9.below hb10
      have hrw10 := hrw9.below hb10
      have hr710 := hr79.below hb10
      have hr910 := hr9.below hb10
      have hb110 := hb19.trans (hb10.mono hb19.size)
      have HRD010 := Lib.hid (HRD0.out.below hb110)
      have hgl : ((unpk xs).getD []).length ≤ n := by
        cases hq : unpk xs with
        | none => simp
        | some q =>
          have := (unpkGo_bound _ _ _ _ hq (by simp) (fun d hd => (HWB.out d hd).1)).2
          simp at this ⊢
          omega
      generalize (unpk xs).isSome = ok at *
      generalize (unpk xs).getD [] = Q at *
      clear hcall hown10 hrp9 hrw9 hr79 hr9 hb10 hb19 HRD9
      go_wp2_with fail
      refine (awake_any _).mono ?_
      rintro e w' ⟨rfl, rfl⟩
      have hs := same_any P P Ap Aw P.length P.length cp cw w10 rfl rfl (by omega) (by omega) hrp10 hrw10
      have hd : decide (P = P) = true := by simp
      rw [hd] at hs
      have HS := Lib.hid hs
      clear hs hd
      go_wp2_with fail
      refine HS.out.mono ?_
      rintro e w' ⟨rfl, q1, rfl⟩
      have hs := same64_any us us A7 A0 k k c7 c0 (w10.drewN q1) hl0 hl0 (by omega) (by omega) (by have := hr710; simp only [Option.getD_some, hl0] at this; exact this) HRD010.out
      have hd : decide (us = us) = true := by simp
      rw [hd] at hs
      have HS2 := Lib.hid hs
      clear hs hd
      go_wp2_with fail
      refine HS2.out.mono ?_
      rintro e w' ⟨rfl, q2, rfl⟩
      have hs := fun W (h1 : Rd W 1 A9 Q.length (words Q)) (h2 : Rd W 1 A10 Q.length (words Q)) => same64_any Q Q A9 A10 Q.length Q.length c9 c10 W rfl rfl (by omega) (by omega) h1 h2
      have hd : decide (Q = Q) = true := by simp
      rw [hd] at hs
      have HS3 := Lib.hid hs
      clear hs hd
      cases ok
      all_goals
        go_wp2_with fail
        refine (HS3.out (w10.drewN (q1 + q2)) hr910 hr10).mono ?_
        rintro e w' ⟨rfl, q3, rfl⟩
        go_wp2_with fail
        go_ret
        exact ⟨rfl, ⟨hb110.os, hb110.tape, hb110.output, hb110.size, hb110.block⟩⟩
end Go.Proofs.Ytffpjnabbmimgaa
