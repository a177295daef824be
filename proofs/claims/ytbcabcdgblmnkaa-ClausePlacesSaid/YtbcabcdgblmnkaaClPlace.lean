/- clause.Places. -/
import Derived.Test.YtbcabcdgblmnkaaClMap
import Derived.Test.YtbcabcdgblmnkaaClChain
namespace Go.Proofs.Ytbcabcdgblmnkaa
open Go.RowKit
set_option linter.unusedVariables false
set_option linter.unusedSimpArgs false

def kOf (x : List Int) : K8 := keyC (canonI x)
def rowAt (xss : List (List Int)) (i : Nat) : List Int := xss.getD i []
/-- the map behind i rounds. -/
def psA (xss : List (List Int)) : Nat → List (K8 × Nat)
  | 0 => []
  | i + 1 => if goodB (rowAt xss i) = true ∧ plook8 (psA xss i) (kOf (rowAt xss i)) = none then psA xss i ++ [(kOf (rowAt xss i), i)] else psA xss i
def outAt (xss : List (List Int)) (i : Nat) : Int := if goodB (rowAt xss i) = true then (((plook8 (psA xss (i + 1)) (kOf (rowAt xss i))).getD 0 : Nat) : Int) else -1
def outsL (xss : List (List Int)) (i : Nat) : List Int := (List.range i).map (outAt xss)
theorem outsL_snoc (xss : List (List Int)) (i : Nat) : outsL xss (i + 1) = outsL xss i ++ [outAt xss i] := by simp [outsL, List.range_succ]
theorem outsL_len (xss : List (List Int)) (i : Nat) : (outsL xss i).length = i := by simp [outsL]
theorem psA_look (xss : List (List Int)) (i : Nat) (k : K8) : plook8 (psA xss i) k = (List.range i).find? (fun j => goodB (rowAt xss j) && decide (kOf (rowAt xss j) = k)) := by
  induction i with
  | zero => rfl
  | succ i ih =>
    rw [psA, List.range_succ, List.find?_append, ← ih]
    by_cases h : goodB (rowAt xss i) = true ∧ plook8 (psA xss i) (kOf (rowAt xss i)) = none
    · rw [if_pos h, plook8_snoc]
      cases hp : plook8 (psA xss i) k with
      | some v => simp
      | none =>
        by_cases hk : k = kOf (rowAt xss i)
        · simp [hk, h.1]
        · have hk' : ¬ kOf (rowAt xss i) = k := fun e => hk e.symm
          simp [hk, hk']
    · rw [if_neg h]
      cases hp : plook8 (psA xss i) k with
      | some v => simp
      | none =>
        by_cases hg : goodB (rowAt xss i) = true
        · have hk : ¬ kOf (rowAt xss i) = k := fun e => h ⟨hg, by rw [e]; exact hp⟩
          simp [hk]
        · simp [hg]

set_option maxRecDepth 100000 in
set_option maxHeartbeats 8000000 in
theorem places_any (xss : List (List Int)) (vs : List Value) (A : Option Addr) (n c : Nat) (w : World) (hl : xss.length = n) (hn : n ≤ 12) (hnc : n ≤ c) (hc : c ≤ maxLen) (hr : Rd w 1 A n vs) (hm : MatI w vs xss)
    (hs : ∀ xs ∈ xss, xs.length ≤ 60) (hi : ∀ xs ∈ xss, ∀ l ∈ xs, IsI64 l) :
    Calls Try.prog 30 #[.slice A n c] w fun e w' => ∃ v, e = .returned v ∧ OwnI w' w.heap.size v (outsL xss n) ∧ Below w.heap.size w w' := by
  unfold maxLen at hc
  obtain ⟨i0, hif, hz0, hz1, hz2⟩ := info_parts info_int
  have HR := Lib.hid hr
  have HM := Lib.hid hm
  have HS := Lib.hid hs
  have HI := Lib.hid hi
  clear hr hm hs hi
  have hmm := @run_makeMap Try.prog
  have hb1 : Below w.heap.size w (w.alloc (.map #[] 0)) := (Below.refl _ _).alloc (Nat.le_refl _) _
  have hm1 := heap_alloc_new w (.map #[] 0)
  obtain ⟨W1, hW1⟩ : ∃ W, W = w.alloc (.map #[] 0) := ⟨_, rfl⟩
  have hs1 : W1.heap.size = w.heap.size + 1 := by rw [hW1]; simp
  rw [← hW1] at hb1 hm1
  go_enter Try.func30, Try.ntmps30
  go_upto_region 2 with fail
  rw [← hW1]
  clear hW1 hmm
  go_wp2_with (refine make2 W1.heap.size W1 W1 rfl _ _ 22 rfl 3 i0 (.int .i64 0) 8 Try.underlying22 hif hz0 hz1 hz2 rfl (by decide) .i64 .i64 _ _ 0 n rfl rfl rfl rfl (Nat.zero_le _) (by omega) [] rfl (Nat.le_refl _) (Below.refl _ _) ?_; intro w2 hown2 hb2 hg2)
  have hm2 := (hb2.block _ (lt_of_blk hm1)).trans hm1
  have HB2 := Lib.hid (bstepC hb1 hb2)
  have HM2 := Lib.hid hm2
  have HO2 := Lib.hid (own_more hown2 (show w.heap.size + 1 ≤ W1.heap.size by omega))
  clear hm1 hb1 hown2 hb2 hg2 hm2
  go_loopw [4, 17] (fun y x wr => ∃ (i : Nat) (v : Value), i ≤ n ∧ x = .int .i64 i ∧ v = y ∧ wr.heap[w.heap.size]? = some (.map (ents8 (psA xss i) 0).toArray (psA xss i).length) ∧ wr.ownsRow (w.heap.size + 1) 3 1 v i (ints (outsL xss i)) ∧ Below w.heap.size w wr) (fun _ x _ => n - (intOf x).toNat)
  case atStart => exact ⟨0, _, Nat.zero_le _, rfl, rfl, HM2.out, by have h := HO2.out; rw [hs1] at h; exact h, HB2.out⟩
  case round =>
    clear HM2 HO2 HB2
    obtain ⟨i, v, hi', rfl, rfl, hmi, hoi, hbk⟩ := hrel
    by_cases hlt : i < n
    · obtain ⟨b, off, A', c', rfl, hcell, hc1, hc2, hrd⟩ := (HM.out.below hbk).at_ (HR.out.below hbk) i hlt
      have hsn := outsL_snoc xss i
      have hps : psA xss (i + 1) = if goodB (rowAt xss i) = true ∧ plook8 (psA xss i) (kOf (rowAt xss i)) = none then psA xss i ++ [(kOf (rowAt xss i), i)] else psA xss i := rfl
      have hou : outAt xss i = if goodB (rowAt xss i) = true then (((plook8 (psA xss (i + 1)) (kOf (rowAt xss i))).getD 0 : Nat) : Int) else -1 := rfl
      have hmem := getDL_mem xss i (by omega)
      have hsz := HS.out _ hmem
      have hii := HI.out _ hmem
      unfold rowAt at hps hou
      generalize xss.getD i [] = x at *
      have hko := keyOf_any x A' x.length c' wr rfl hc1 (by omega) hrd hii
      have hkk : kOf x = keyC (canonI x) := rfl
      rw [← hkk] at hko
      have hoL := outsL_len xss i
      have HSN := Lib.hid hsn
      have HPS := Lib.hid hps
      have HOU := Lib.hid hou
      have HMI := Lib.hid hmi
      have HOI := Lib.hid hoi
      have HBK := Lib.hid hbk
      have HKO := Lib.hid hko
      have hlm := lt_of_blk hmi
      clear hsn hps hou hmem hsz hii hrd hc1 hc2 hkk hko hmi hoi hbk
      generalize kOf x = K at *
      generalize outsL xss i = OL at *
      generalize psA xss i = PS at *
      cases hg : goodB x with
      | false =>
        have hko := HKO.out
        rw [hg, if_neg (by simp), if_neg (by simp)] at hko
        have hps := HPS.out
        rw [hg, if_neg (by simp)] at hps
        have hou := HOU.out
        rw [hg, if_neg (by simp)] at hou
        have HPS2 := Lib.hid hps
        have HOU2 := Lib.hid hou
        clear hps hou HPS HOU HKO hg
        go_wp2_with fail
        go_at_call 27
        refine hko.mono ?_
        rintro e w5 ⟨rfl, hb5⟩
        simp only [K8.val]
        go_upto_region 7 with fail
        generalize key0 = kz at *
        have hb6 := hb5.alloc (by exact hb5.size) (.cells #[.int .i64 kz.n, .int .i64 kz.a, .int .i64 kz.b, .int .i64 kz.c, .int .i64 kz.d, .int .i64 kz.e, .int .i64 kz.f, .string kz.s] 47)
        obtain ⟨W6, hW6⟩ : ∃ W, W = w5.alloc (.cells #[.int .i64 kz.n, .int .i64 kz.a, .int .i64 kz.b, .int .i64 kz.c, .int .i64 kz.d, .int .i64 kz.e, .int .i64 kz.f, .string kz.s] 47) := ⟨_, rfl⟩
        rw [← hW6] at hb6 ⊢
        clear hW6 hb5 hko
        have hown6 := own_below HOI.out hb6
        have hm6 := (hb6.block _ hlm).trans HMI.out
        have HM6 := Lib.hid hm6
        have HB6 := Lib.hid hb6
        clear hm6
        go_wp2_with (at_builtin; refine app1 (w.heap.size + 1) wr W6 (.int .i64 (-1)) 3 rfl _ _ 22 rfl i0 (.int .i64 0) 8 Try.underlying22 hif hz0 hz1 hz2 rfl (by decide) _ i _ rfl (by omega) hown6 (hb6.mono (by omega)) rfl rfl (by omega) ?_)
        intro v7 w7 hown7 hb7 hg7
        have HO7 := Lib.hid hown7
        have HB7 := Lib.hid hb7
        clear hown7 hb7 hg7 hown6 hb6
        go_wp2_with fail
        go_roundw
        case rel => exact ⟨i + 1, _, by omega, by go_num, rfl, by rw [HPS2.out]; exact (HB7.out.block _ (by omega)).trans HMI.out, by rw [HSN.out, HOU2.out, ints_append]; exact HO7.out, HBK.out.trans (HB7.out.mono (by omega))⟩
        case measure => simp [intOf]; omega
      | true =>
        have hko := HKO.out
        rw [hg, if_pos rfl, if_pos rfl] at hko
        have hps := HPS.out
        rw [hg] at hps
        have hou := HOU.out
        rw [hg, if_pos rfl] at hou
        have HPS2 := Lib.hid hps
        have HOU2 := Lib.hid hou
        clear hps hou HPS HOU HKO hg
        go_wp2_with fail
        go_at_call 27
        refine hko.mono ?_
        rintro e w5 ⟨rfl, hb5⟩
        simp only [K8.val]
        go_upto_region 9 with fail
        have hb6 := hb5.alloc (by exact hb5.size) (.cells #[.int .i64 K.n, .int .i64 K.a, .int .i64 K.b, .int .i64 K.c, .int .i64 K.d, .int .i64 K.e, .int .i64 K.f, .string K.s] 47)
        have hg6 := heap_alloc_new w5 (.cells #[.int .i64 K.n, .int .i64 K.a, .int .i64 K.b, .int .i64 K.c, .int .i64 K.d, .int .i64 K.e, .int .i64 K.f, .string K.s] 47)
        have hlm5 : w.heap.size < w5.heap.size := Nat.lt_of_lt_of_le hlm hb5.size
        obtain ⟨W6, hW6⟩ : ∃ W, W = w5.alloc (.cells #[.int .i64 K.n, .int .i64 K.a, .int .i64 K.b, .int .i64 K.c, .int .i64 K.d, .int .i64 K.e, .int .i64 K.f, .string K.s] 47) := ⟨_, rfl⟩
        rw [← hW6] at hb6 hg6 ⊢
        clear hW6 hb5 hko
        have hown6 := own_below HOI.out hb6
        have hm6 := (hb6.block _ hlm).trans HMI.out
        have hlk := run_look8 w.heap.size PS PS.length K W6 hm6
        simp only [K8.val] at hlk
        obtain ⟨z0, z1, z2, z3, z4, z5, z6, z7⟩ := box8 hg6
        have HM6 := Lib.hid hm6
        have HB6 := Lib.hid hb6
        have HG6 := Lib.hid hg6
        clear hm6 hg6
        cases hpl : plook8 PS K with
        | some v0 =>
          rw [hpl, Option.getD_some, Option.isSome_some] at hlk
          have hps := HPS2.out
          rw [hpl, if_neg (by simp)] at hps
          have hlk2 := run_look8' w.heap.size PS PS.length K W6 HM6.out
          simp only [K8.val] at hlk2
          rw [hpl, Option.getD_some] at hlk2
          have hou := HOU2.out
          rw [hps, hpl, Option.getD_some] at hou
          have HPS3 := Lib.hid hps
          have HOU3 := Lib.hid hou
          clear hps hou hpl HPS2 HOU2
          go_wp2_with (at_builtin; refine app1 (w.heap.size + 1) wr W6 (.int .i64 (v0 : Int)) 3 rfl _ _ 22 rfl i0 (.int .i64 0) 8 Try.underlying22 hif hz0 hz1 hz2 rfl (by decide) _ i _ rfl (by omega) hown6 (hb6.mono (by omega)) rfl rfl (by omega) ?_)
          intro v7 w7 hown7 hb7 hg7
          have HO7 := Lib.hid hown7
          have HB7 := Lib.hid hb7
          clear hown7 hb7 hg7 hown6 hb6
          go_wp2_with fail
          go_roundw
          case rel => exact ⟨i + 1, _, by omega, by go_num, rfl, by rw [HPS3.out]; exact (HB7.out.block _ (by omega)).trans HMI.out, by rw [HSN.out, HOU3.out, ints_append]; exact HO7.out, HBK.out.trans (HB7.out.mono (by omega))⟩
          case measure => simp [intOf]; omega
        | none =>
          rw [hpl, Option.getD_none, Option.isSome_none] at hlk
          have hps := HPS2.out
          rw [hpl, if_pos (by simp)] at hps
          have hou := HOU2.out
          rw [hps, plook8_snoc, hpl] at hou
          simp only [if_true, Option.getD_some] at hou
          have HPS3 := Lib.hid hps
          have HOU3 := Lib.hid hou
          have hst := run_store8 w.heap.size PS K i W6 HM6.out hpl
          obtain ⟨W7, hW7⟩ : ∃ W : World, W = { W6 with heap := W6.heap.setIfInBounds w.heap.size (.map (ents8 (PS ++ [(K, i)]) 0).toArray (PS.length + 1)) } := ⟨_, rfl⟩
          rw [← hW7] at hst
          simp only [K8.val] at hst
          have hfr : Fr (fun b => b = w.heap.size) W6 W7 := by
            rw [hW7]
            refine ⟨rfl, rfl, rfl, by simp, fun b hb hnb => ?_⟩
            show (W6.heap.setIfInBounds w.heap.size _)[b]? = _
            rw [Array.getElem?_setIfInBounds, if_neg (fun e => hnb e.symm)]
          have hm7 : W7.heap[w.heap.size]? = some (.map (ents8 (PS ++ [(K, i)]) 0).toArray (PS ++ [(K, i)]).length) := by
            rw [hW7]
            show (W6.heap.setIfInBounds w.heap.size _)[w.heap.size]? = _
            rw [Array.getElem?_setIfInBounds, if_pos rfl, if_pos (lt_of_blk HM6.out), List.length_append]
            rfl
          have hlt6 := lt_of_blk HG6.out
          have hg7 := (hfr.block w5.heap.size hlt6 (by omega)).trans HG6.out
          have hlk2 := run_look8' w.heap.size (PS ++ [(K, i)]) _ K W7 hm7
          rw [plook8_snoc, hpl] at hlk2
          simp only [if_true, Option.getD_some] at hlk2
          simp only [K8.val] at hlk2
          obtain ⟨y0, y1, y2, y3, y4, y5, y6, y7⟩ := box8 hg7
          have hown7 := hfr.own hown6 (fun b hb e => by have := (own_lt hown6 hb).1; omega)
          have hfb : Fr (fun b => b = w.heap.size) wr W7 := (Fr.of_below hb6).trans hfr (fun b e => .inl e)
          have HFB := Lib.hid hfb
          have HM7 := Lib.hid hm7
          have hs7 := hfb.size
          have hbW7 : Below (w.heap.size + 1) W7 W7 := Below.refl _ _
          clear hps hou hpl HPS2 HOU2 hW7 hfr hm7 hg7 hown6 hb6 hfb
          have hown6 := hown7
          have hb6 := hbW7
          clear hown7 hbW7
          go_wp2_with (at_builtin; refine app1 (w.heap.size + 1) W7 W7 (.int .i64 (i : Int)) 3 rfl _ _ 22 rfl i0 (.int .i64 0) 8 Try.underlying22 hif hz0 hz1 hz2 rfl (by decide) _ i _ rfl (by omega) hown6 hb6 rfl rfl (by omega) ?_)
          intro v7 w7 hown7 hb7 hg7
          have HO7 := Lib.hid hown7
          have HB7 := Lib.hid hb7
          clear hown7 hb7 hg7 hown6 hb6
          go_wp2_with fail
          go_roundw
          case rel => exact ⟨i + 1, _, by omega, by go_num, rfl, by rw [HPS3.out]; exact (HB7.out.block _ (by omega)).trans HM7.out, by rw [HSN.out, HOU3.out, ints_append]; exact HO7.out, HBK.out.trans ((HFB.out.below (Nat.le_of_lt hlm) (fun b e => by omega)).trans (HB7.out.mono (by omega)))⟩
          case measure => simp [intOf]; omega
    · obtain rfl : n = i := by omega
      have HO := Lib.hid hoi
      clear hoi hmi
      go_wp2_with fail
      go_ret
      exact ⟨_, rfl, by have h := own_more HO.out (show w.heap.size ≤ w.heap.size + 1 by omega); unfold OwnI; rw [outsL_len]; exact h, hbk⟩
end Go.Proofs.Ytbcabcdgblmnkaa
