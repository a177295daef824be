/- Contracts of the laws' few and of the reference's Canon. -/
import Derived.Test.YtbcabcdgblmnkaaClReads
import Derived.Test.YtbcabcdgblmnkaaRegApp
namespace Go.Proofs.Ytbcabcdgblmnkaa
open Go.RowKit
set_option linter.unusedVariables false
set_option linter.unusedSimpArgs false

theorem info_int : (Try.prog.info? 3).map (fun i => (i.zero, i.size, i.bytes)) = some (some (.int .i64 0), 1, 8) := by kernel_rfl
theorem ints_one (xs : List Int) : ∀ u ∈ ints xs, u.oneCell' = true := by
  intro u hu
  obtain ⟨b, _, rfl⟩ := List.mem_map.1 hu
  rfl
theorem ints_append (xs ys : List Int) : ints (xs ++ ys) = ints xs ++ ints ys := by simp [ints]
/-- a row of integers of the call's own, from block B on. -/
def OwnI (w : World) (B : Nat) (v : Value) (xs : List Int) : Prop := w.ownsRow B 3 1 v xs.length (ints xs)
theorem OwnI.form {w : World} {B : Nat} {v : Value} {xs : List Int} (h : OwnI w B v xs) : ∃ A c, v = .slice A xs.length c ∧ xs.length ≤ c ∧ Rd w 1 A xs.length (ints xs) := ownsRow_form h
theorem OwnI.below {w w' : World} {B : Nat} {v : Value} {xs : List Int} (h : OwnI w B v xs) (hb : Below w.heap.size w w') : OwnI w' B v xs := own_below h hb
theorem OwnI.more {w : World} {B B' : Nat} {v : Value} {xs : List Int} (h : OwnI w B v xs) (hB : B' ≤ B) : OwnI w B' v xs := own_more h hB
theorem OwnI.nil (w : World) (B : Nat) : OwnI w B (.slice none 0 0) [] := World.ownsRow_nil _ _ _ _

theorem few_any (xs : List Int) (A : Option Addr) (n c : Nat) (w : World) (hl : xs.length = n) (hnc : n ≤ c) (hc : c ≤ maxLen) (hr : Rd w 1 A n (ints xs)) :
    Calls Try.prog 13 #[.slice A n c] w fun e w' => ∃ v, e = .returned v ∧ OwnI w' w.heap.size v (xs.take 60) ∧ Below w.heap.size w w' := by
  obtain ⟨i0, hi, hz0, hz1, hz2⟩ := info_parts info_int
  unfold maxLen at hc
  by_cases h : 60 < n
  · have hr2 := hr.take (k := 60) (by omega)
    have he : (ints xs).take 60 = ints (xs.take 60) := by simp [ints, List.map_take]
    rw [he] at hr2
    have hl2 : (xs.take 60).length = 60 := by rw [List.length_take]; omega
    have h200 : (60 : Int) < (n : Int) := by omega
    have h200c : 60 ≤ c := by omega
    generalize xs.take 60 = ys at *
    clear hr hl he
    go_enter Try.func13, Try.ntmps13
    go_wp2_with (at_builtin; refine appR w.heap.size w (w.alloc (.cells #[] 3)) 3 rfl _ _ 22 rfl i0 (.int .i64 0) 8 Try.underlying22 hi hz0 hz1 hz2 rfl (by decide) _ 0 [] rfl (Nat.le_refl _) (own_empty _ _ _ (Nat.le_refl _)) ((Below.refl _ _).alloc (Nat.le_refl _) _) A 60 _ (ints ys) rfl (hr2.alloc _) (ints_one ys) (by omega) ?_)
    intro v' w' hown' hb' _
    go_wp2_with fail
    go_ret
    exact ⟨v', rfl, by unfold OwnI; rw [hl2]; simpa using hown', hb'⟩
  · rw [List.take_of_length_le (by omega)]
    have h200 : ¬ (60 : Int) < (n : Int) := by omega
    go_enter Try.func13, Try.ntmps13
    go_wp2_with (at_builtin; refine appR w.heap.size w (w.alloc (.cells #[] 3)) 3 rfl _ _ 22 rfl i0 (.int .i64 0) 8 Try.underlying22 hi hz0 hz1 hz2 rfl (by decide) _ 0 [] rfl (Nat.le_refl _) (own_empty _ _ _ (Nat.le_refl _)) ((Below.refl _ _).alloc (Nat.le_refl _) _) A n c (ints xs) rfl (hr.alloc _) (ints_one xs) (by omega) ?_)
    intro v' w' hown' hb' _
    go_wp2_with fail
    go_ret
    exact ⟨v', rfl, by unfold OwnI; rw [hl]; simpa using hown', hb'⟩

theorem good_lit {xs : List Int} (h : goodB xs = true) (hw : ∀ l ∈ xs, IsI64 l) : ∀ l ∈ xs, IsLit l := by
  induction xs with
  | nil => intro l hl; simp at hl
  | cons x xs ih =>
    rw [goodB_cons] at h
    split at h
    · cases h
    · split at h
      · cases h
      · intro l hl
        rcases List.mem_cons.1 hl with e | e
        · subst e
          have := hw l (by simp)
          unfold IsI64 at this
          exact ⟨by assumption, by omega, by omega⟩
        · exact ih h (fun m hm => hw m (by simp [hm])) l e
theorem getD_mem (xs : List Int) (i : Nat) (h : i < xs.length) : xs.getD i 0 ∈ xs := by
  rw [List.getD_eq_getElem?_getD, List.getElem?_eq_getElem h]
  simp
theorem canon_take (xs : List Int) (i : Nat) (h : i < xs.length) : canonI (xs.take (i + 1)) = canonStep (canonI (xs.take i)) (xs.getD i 0) := by
  have : xs.take (i + 1) = xs.take i ++ [xs.getD i 0] := by
    rw [List.take_add_one, List.getD_eq_getElem?_getD, List.getElem?_eq_getElem h]; rfl
  rw [this, canonI, List.foldl_append]
  rfl

theorem OwnI.snoc {w : World} {B n : Nat} {v : Value} {xs : List Int} {x : Int} (h : w.ownsRow B 3 1 v n (ints xs ++ [.int .i64 x])) (hn : n = xs.length + 1 := by simp) : OwnI w B v (xs ++ [x]) := by
  unfold OwnI
  rw [ints_append, List.length_append]
  subst hn
  exact h
set_option maxRecDepth 100000 in
set_option maxHeartbeats 4000000 in
theorem canonR_any (xs : List Int) (A : Option Addr) (n c : Nat) (w : World) (hl : xs.length = n) (hn : n ≤ 1000000) (hr : Rd w 1 A n (ints xs)) (hlit : ∀ l ∈ xs, IsLit l) :
    Calls Try.prog 18 #[.slice A n c] w fun e w' => ∃ v, e = .returned v ∧ OwnI w' w.heap.size v (canonI xs) ∧ Below w.heap.size w w' := by
  obtain ⟨i0, hi, hz0, hz1, hz2⟩ := info_parts info_int
  have HR := Lib.hid hr
  have HLIT := Lib.hid hlit
  clear hr hlit
  go_enter Try.func18, Try.ntmps18
  go_wp2_with fail
  go_loopw [3, 13] (fun y x wr => ∃ (i : Nat), i ≤ n ∧ x = .int .i64 i ∧ OwnI wr w.heap.size y (canonI (xs.take i)) ∧ Below w.heap.size w wr) (fun _ x _ => n - (intOf x).toNat)
  case atStart => exact ⟨0, Nat.zero_le _, rfl, own_empty _ _ _ (Nat.le_refl _), (Below.refl _ _).alloc (Nat.le_refl _) _⟩
  case round =>
    obtain ⟨i, hi', rfl, hown, hbk⟩ := hrel
    by_cases hlt : i < n
    · obtain ⟨b, off, rfl, hc⟩ := (HR.out.below hbk).int i hlt hl
      have hll := HLIT.out _ (getD_mem xs i (by omega))
      have hct := canon_take xs i (by omega)
      have hlen := canonI_len (xs.take i)
      rw [List.length_take] at hlen
      have hmem : ∀ m ∈ canonI (xs.take i), IsLit m := fun m hm => HLIT.out m (List.mem_of_mem_take ((canonI_mem _ _).1 hm))
      generalize xs.getD i 0 = l at *
      generalize canonI (xs.take i) = o at *
      obtain ⟨A3, c3, rfl, _, hr3⟩ := hown.form
      have hhas := has_any o A3 o.length c3 l wr rfl (by unfold maxLen; omega) hr3
      have HCT := Lib.hid hct
      have HOWN := Lib.hid hown
      have HR3 := Lib.hid hr3
      have HMEM := Lib.hid hmem
      clear hct hown hr3 hmem
      cases hh : hasB o l with
      | true =>
        rw [hh] at hhas
        have hst : canonStep o l = o := by unfold canonStep; rw [if_pos (by simpa [hasB] using hh)]
        have HST := Lib.hid (HCT.out.trans hst)
        clear hst hh
        go_wp2_with (go_at_call 26; refine hhas.mono ?_; rintro e w' ⟨rfl, hw⟩; obtain rfl := hw.symm)
        go_roundw
        case rel => exact ⟨i + 1, by omega, by go_num, by rw [HST.out]; exact HOWN.out, hbk⟩
        case measure => simp [intOf]; omega
      | false =>
        rw [hh] at hhas
        have hst : canonStep o l = insG l o := by unfold canonStep; rw [if_neg (by simpa [hasB] using hh)]
        have HST := Lib.hid (HCT.out.trans hst)
        clear hst hh
        obtain ⟨wo, rfl⟩ : ∃ wo : World, wo = wr := ⟨_, rfl⟩
        go_wp2_with (go_at_call 26; refine hhas.mono ?_; rintro e w' ⟨rfl, hw⟩; obtain rfl := hw.symm)
        go_loopw [6, 7, 23] (fun y d x wr => ∃ (j : Nat) (nx : List Int) (done : Bool), j ≤ o.length ∧ x = .int .i64 j ∧ d = .bool done ∧ nx.length + (if done = true then 0 else 1) ≤ j + 1 ∧ OwnI wr wo.heap.size y nx ∧ nx ++ (if done = true then o.drop j else insG l (o.drop j)) = insG l o ∧ Below wo.heap.size wo wr) (fun _ _ x _ => o.length - (intOf x).toNat)
        case atStart => exact ⟨0, [], false, Nat.zero_le _, rfl, rfl, by simp, own_empty _ _ _ (Nat.le_refl _), by simp, (Below.refl _ _).alloc (Nat.le_refl _) _⟩
        case round =>
          obtain ⟨j, nx, done, hj', rfl, rfl, hnl, hown, hins, hbo⟩ := hrel
          by_cases hjl : j < o.length
          · obtain ⟨b2, off2, rfl, hc2⟩ := (HR3.out.below hbo).int j hjl rfl
            have hm := HMEM.out _ (getD_mem o j hjl)
            rw [drop_getD o j hjl] at hins
            generalize o.getD j 0 = m at *
            cases done with
            | true =>
              rw [if_pos rfl] at hins hnl
              have HINS := Lib.hid hins
              clear hins
              go_wp2_with (at_builtin; refine app1 wo.heap.size wo wr (.int .i64 m) 3 rfl (.tmp 38) (.tmp 40) 22 rfl i0 (.int .i64 0) 8 Try.underlying22 hi hz0 hz1 hz2 rfl (by decide) _ nx.length (ints nx) rfl (Nat.le_refl _) hown hbo rfl rfl (by first | omega | (simp; omega)) ?_)
              intro v2 w2 hown2 hb2' _
              have hown2 := OwnI.snoc hown2
              go_wp2_with fail
              go_roundw
              case rel => exact ⟨j + 1, nx ++ [m], true, by omega, by go_num, rfl, by simp; omega, hown2, by rw [if_pos rfl, List.append_assoc]; exact HINS.out, hb2'⟩
              case measure => simp [intOf]; omega
            | false =>
              rw [if_neg (by simp), insG] at hins
              rw [if_neg (by simp)] at hnl
              have hah := ahead_lit l m wr hll hm
              cases hlm : ahd l m with
              | true =>
                rw [hlm] at hah hins
                rw [if_pos rfl] at hins
                have HINS := Lib.hid hins
                clear hins hlm
                go_wp2_with (first | (go_at_call 42; refine hah.mono ?_; rintro e w' ⟨rfl, hw⟩; obtain rfl := hw.symm) | (at_builtin; refine app1 wo.heap.size wo wr (.int .i64 l) 3 rfl (.tmp 34) (.tmp 36) 22 rfl i0 (.int .i64 0) 8 Try.underlying22 hi hz0 hz1 hz2 rfl (by decide) _ nx.length (ints nx) rfl (Nat.le_refl _) hown hbo rfl rfl (by first | omega | (simp; omega)) ?_))
                intro v2 w2 hown2 hb2' _
                have hown2 := OwnI.snoc hown2
                obtain ⟨wp, rfl⟩ : ∃ x, x = w2 := ⟨_, rfl⟩
                have hown := hown2
                have hbo := hb2'
                clear hown2 hb2'
                go_wp2_with (at_builtin; refine app1 wo.heap.size wo wp (.int .i64 m) 3 rfl (.tmp 38) (.tmp 40) 22 rfl i0 (.int .i64 0) 8 Try.underlying22 hi hz0 hz1 hz2 rfl (by decide) _ (nx ++ [l]).length (ints (nx ++ [l])) rfl (Nat.le_refl _) hown hbo rfl rfl (by first | omega | (simp; omega)) ?_)
                intro v2 w2 hown2 hb2' _
                have hown2 := OwnI.snoc hown2
                go_wp2_with fail
                go_roundw
                case rel => exact ⟨j + 1, nx ++ [l] ++ [m], true, by omega, by go_num, rfl, by simp; omega, hown2, by rw [if_pos rfl, List.append_assoc, List.append_assoc]; exact HINS.out, hb2'⟩
                case measure => simp [intOf]; omega
              | false =>
                rw [hlm] at hah hins
                rw [if_neg (by simp)] at hins
                have HINS := Lib.hid hins
                clear hins hlm
                go_wp2_with (first | (go_at_call 42; refine hah.mono ?_; rintro e w' ⟨rfl, hw⟩; obtain rfl := hw.symm) | (at_builtin; refine app1 wo.heap.size wo wr (.int .i64 m) 3 rfl (.tmp 38) (.tmp 40) 22 rfl i0 (.int .i64 0) 8 Try.underlying22 hi hz0 hz1 hz2 rfl (by decide) _ nx.length (ints nx) rfl (Nat.le_refl _) hown hbo rfl rfl (by first | omega | (simp; omega)) ?_))
                intro v2 w2 hown2 hb2' _
                have hown2 := OwnI.snoc hown2
                go_wp2_with fail
                go_roundw
                case rel => exact ⟨j + 1, nx ++ [m], false, by omega, by go_num, rfl, by simp; omega, hown2, by rw [if_neg (by simp), List.append_assoc]; exact HINS.out, hb2'⟩
                case measure => simp [intOf]; omega
          · obtain rfl : j = o.length := by omega
            rw [List.drop_of_length_le (Nat.le_refl _), insG] at hins
            have hwb := hbk.trans (hbo.mono hbk.size)
            have hsz := hbk.size
            cases done with
            | true =>
              rw [if_pos rfl, List.append_nil] at hins
              subst hins
              have HST2 := HST
              clear HCT HR3 HMEM
              go_wp2_with fail
              go_roundw
              case rel => exact ⟨i + 1, by omega, by go_num, by rw [HST2.out]; exact hown.more hsz, hwb⟩
              case measure => simp [intOf]; omega
            | false =>
              rw [if_neg (by simp)] at hins hnl
              have HINS := Lib.hid hins
              clear hins
              go_wp2_with (at_builtin; refine app1 wo.heap.size wo wr (.int .i64 l) 3 rfl (.tmp 45) (.tmp 47) 22 rfl i0 (.int .i64 0) 8 Try.underlying22 hi hz0 hz1 hz2 rfl (by decide) _ nx.length (ints nx) rfl (Nat.le_refl _) hown hbo rfl rfl (by first | omega | (simp; omega)) ?_)
              intro v2 w2 hown2 hb2' _
              have hown2 := OwnI.snoc hown2
              go_wp2_with fail
              go_roundw
              case rel => exact ⟨i + 1, by omega, by go_num, by rw [HST.out, ← HINS.out]; exact hown2.more hsz, hbk.trans (hb2'.mono hbk.size)⟩
              case measure => simp [intOf]; omega
    · obtain rfl : i = n := by omega
      rw [List.take_of_length_le (by omega)] at hown
      obtain ⟨A3, c3, rfl, _, _⟩ := hown.form
      have HOWN := Lib.hid hown
      clear hown
      go_wp2_with fail
      go_ret
      exact ⟨_, rfl, HOWN.out, hbk⟩
end Go.Proofs.Ytbcabcdgblmnkaa
