/- Contracts of package intern: Play; attestlaw10: few. -/
import Derived.Test.YtdpnififbpoagaaNodeRd
import Derived.Test.YtdpnififbpoagaaRegApp
import Derived.Test.YtdpnififbpoagaaOpen
import Derived.Test.YtdpnififbpoagaaNodeEv
namespace Go.Proofs.Ytdpnififbpoagaa
open Go.RowKit
set_option linter.unusedVariables false
set_option linter.unusedSimpArgs false

theorem info_op : (Try.prog.info? 36).map (fun i => (i.zero, i.size, i.bytes)) = some (some (.agg #[.int .i64 0, .int .i64 0, .int .i64 0]), 3, 24) := by kernel_rfl
theorem few_any (os : List Nd) (A : Option Addr) (n c : Nat) (w : World) (hl : os.length = n) (hnc : n ≤ c) (hc : c ≤ maxLen) (hr : Rd w 3 A n (ndCells os)) :
    Calls Try.prog 15 #[.slice A n c] w fun e w' => ∃ v, e = .returned v ∧ w'.ownsRow w.heap.size 36 3 v (os.take 200).length (ndCells (os.take 200)) ∧ Below w.heap.size w w' := by
  obtain ⟨i0, hi, hz0, hz1, hz2⟩ := info_parts info_op
  unfold maxLen at hc
  by_cases h : 200 < n
  · have hr2 := hr.takeS (k := 200) (by omega) (by decide)
    rw [ndCells_take] at hr2
    have hl2 : (os.take 200).length = 200 := by rw [List.length_take]; omega
    rw [hl2]
    have h200 : (200 : Int) < (n : Int) := by omega
    have h200c : 200 ≤ c := by omega
    clear hr hl
    go_enter Try.func15, Try.ntmps15
    go_wp2_with (at_builtin; refine appRS w.heap.size w (w.alloc (.cells #[] 36)) 3 36 rfl _ _ 22 rfl i0 _ 24 Try.underlying22 hi hz0 hz1 hz2 rfl (by decide) (by decide) _ 0 [] rfl (Nat.le_refl _) (own_emptyS _ _ _ _ (Nat.le_refl _)) ((Below.refl _ _).alloc (Nat.le_refl _) _) A 200 c _ rfl (hr2.alloc _) (ndCells_one' _) (by omega) ?_)
    intro v' w' hown' hb' _
    go_wp2_with fail
    go_ret
    exact ⟨v', rfl, by simpa using hown', hb'⟩
  · rw [List.take_of_length_le (by omega), hl]
    have h200 : ¬ (200 : Int) < (n : Int) := by omega
    go_enter Try.func15, Try.ntmps15
    go_wp2_with (at_builtin; refine appRS w.heap.size w (w.alloc (.cells #[] 36)) 3 36 rfl _ _ 22 rfl i0 _ 24 Try.underlying22 hi hz0 hz1 hz2 rfl (by decide) (by decide) _ 0 [] rfl (Nat.le_refl _) (own_emptyS _ _ _ _ (Nat.le_refl _)) ((Below.refl _ _).alloc (Nat.le_refl _) _) A n c _ rfl (hr.alloc _) (ndCells_one' _) (by omega) ?_)
    intro v' w' hown' hb' _
    go_wp2_with fail
    go_ret
    exact ⟨v', rfl, by simpa using hown', hb'⟩
end Go.Proofs.Ytdpnififbpoagaa

namespace Go.Proofs.Ytdpnififbpoagaa
open Go.RowKit
set_option linter.unusedVariables false
set_option linter.unusedSimpArgs false

def ansL (xs : List Int) : List Value := xs.map (Value.int .i64)
theorem stepP_snd (s : List Nd × List Int) (o : Nd) : ansL (stepP s o).2 = ansL s.2 ++ [.int .i64 (ansI (doN s.1 o).2)] := by simp [ansL, stepP]
theorem info_int : (Try.prog.info? 3).map (fun i => (i.zero, i.size, i.bytes)) = some (some (.int .i64 0), 1, 8) := by kernel_rfl

/-- a row of ints lies beside a table. -/
theorem Tab.apart {w : World} {tb mb B n : Nat} {sv o : Value} {ns : List Nd} {xs : List Value} (h : Tab w tb mb sv ns) {e : TypeId} {size : Nat} (ho : w.ownsRow B e size o n xs) (h1 : e ≠ 86) (h2 : e ≠ 33) :
    ∀ b, o.ownBlock = some b → ¬ TS tb mb sv b := by
  obtain ⟨ps, hp, _⟩ := h.map
  intro b hb hS
  rcases hS with rfl | rfl | hS
  · exact own_type ho h.blk h1 hb
  · exact own_map ho hp hb
  · exact own_own h.own ho (fun e => h2 e.symm) hS hb
theorem Tab.apart' {w : World} {tb mb B n : Nat} {sv o : Value} {ns : List Nd} {xs : List Value} (h : Tab w tb mb sv ns) {e : TypeId} {size : Nat} (ho : w.ownsRow B e size o n xs) (h1 : e ≠ 86) (h2 : e ≠ 33) {w' : World} (hf : Fr (ownS o) w w') : Tab w' tb mb sv ns :=
  h.keep hf (fun hb => h.apart ho h1 h2 tb hb (.inl rfl)) (fun hb => h.apart ho h1 h2 mb hb (.inr (.inl rfl))) (fun b hb hS => h.apart ho h1 h2 b hS (.inr (.inr hb)))

set_option maxRecDepth 100000 in
set_option maxHeartbeats 4000000 in
theorem play_any (os : List Nd) (A : Option Addr) (n c : Nat) (w : World) (hl : os.length = n) (hnc : n ≤ 100000) (hr : Rd w 3 A n (ndCells os)) :
    Calls Try.prog 16 #[.slice A n c] w fun e w' => ∃ v1 v2, e = .returned (.tuple #[v1, v2]) ∧
      w'.ownsRow w.heap.size 3 1 v1 n (ansL (playN os).2) ∧ w'.ownsRow w.heap.size 33 3 v2 (playN os).1.length (ndCells (playN os).1) ∧ Below w.heap.size w w' := by
  obtain ⟨i0, hi, hz0, hz1, hz2⟩ := info_parts info_int
  obtain ⟨j0, hj, hy0, hy1, hy2⟩ := info_parts info_node
  have N := new_tab w
  go_enter Try.func16, Try.ntmps16
  go_wp2_with (first | (go_at_call 33; refine N.mono ?_; rintro e w1 ⟨rfl, sv0, mb, ht, hb1, hmb, hsv⟩) | (at_make; refine make2 w.heap.size w w1 rfl _ _ 24 rfl 3 i0 (.int .i64 0) 8 Try.underlying24 hi hz0 hz1 hz2 rfl (by decide) .i64 .i64 0 (n : Int) 0 n rfl rfl rfl rfl (by omega) (by omega) [] rfl (Nat.le_refl _) hb1 ?_))
  intro w2 hown2 hb2 hg2
  have ht2 := ht.keep (Fr.of_grown (S := fun _ => False) hg2 (fun k hk => by cases hk)) (fun h => h) (fun h => h) (fun _ _ h => h)
  have hown2' := own_more hown2 hb1.size
  clear ht hown2 hg2 hb1 N
  go_wp2_with fail
  go_loopw [5, 16] (fun o i wr => ∃ (k : Nat) (sv : Value), k ≤ n ∧ i = .int .i64 k ∧ Tab wr w.heap.size mb sv (playN (os.take k)).1 ∧ (∀ b, sv.ownBlock = some b → w.heap.size ≤ b) ∧ wr.ownsRow w.heap.size 3 1 o k (ansL (playN (os.take k)).2) ∧ Below w.heap.size w wr) (fun _ i _ => n - (intOf i).toNat)
  case atStart => exact ⟨0, sv0, Nat.zero_le _, rfl, ht2, hsv, hown2', hb2⟩
  case round =>
    obtain ⟨k, sv, hk, rfl, htk, hsvk, hownk, hbk⟩ := hrel
    by_cases hlt : k < n
    · obtain ⟨b1, o1, rfl, hc1, hc2, hc3, hb1⟩ := (hr.below hbk).node3 k (by omega) hl
      have hpl := playN_take os k (by omega)
      have hgood := good_play (os.take k)
      generalize os[k] = op at *
      generalize hP : playN (os.take k) = Pk at *
      obtain ⟨ns', q, hdo⟩ : ∃ ns' q, doN Pk.1 op = (ns', q) := ⟨_, _, rfl⟩
      have hd := do_any w.heap.size mb sv Pk.1 op (wr.alloc (.cells #[.int .i64 op.k, .int .i64 op.a, .int .i64 op.b] 36)) (htk.keep ((Fr.refl (fun _ => False) _).alloc _) (fun h => h) (fun h => h) (fun _ _ h => h)) hgood.neg
      simp only [ansV, hdo] at hd
      have hpl' : playN (os.take (k + 1)) = (ns', Pk.2 ++ [ansI q]) := by rw [hpl]; simp [stepP, hdo]
      have HD := Lib.hid hd
      have HR := Lib.hid hr
      have HPL := Lib.hid hpl'
      have HT := Lib.hid htk
      have HS := Lib.hid hsvk
      have HO := Lib.hid hownk
      have HB := Lib.hid hbk
      clear hd hr hpl hpl' hdo hP hgood htk hsvk hownk hbk
      cases q with
      | some j =>
        simp only [Option.getD_some, Option.isSome_some] at HD
        go_wp2_with (first | (go_at_call 22; refine HD.out.mono ?_; rintro e w3 ⟨rfl, sv3, ht3, hf3, hn3⟩; have hf03 : Fr (TS w.heap.size mb sv) wr w3 := ((Fr.refl _ wr).alloc _).trans hf3 (fun b hb => .inl hb); have hown3 := hf03.own HO.out (HT.out.apart HO.out (by decide) (by decide)); have hb3 : Below w.heap.size w w3 := HB.out.trans (hf03.below HB.out.size (fun b hb => by rcases hb with rfl | rfl | hb; exact Nat.le_refl _; exact hmb; exact HS.out b hb))) | (at_builtin; refine app1 w.heap.size w w3 (.int .i64 ((j:Nat):Int)) 3 rfl _ _ 24 rfl i0 (.int .i64 0) 8 Try.underlying24 hi hz0 hz1 hz2 rfl (by decide) _ k _ rfl (Nat.le_refl _) hown3 hb3 rfl rfl (by omega) ?_))
        intro v4 w4 hown4 hb4 hg4
        have ht4 := ht3.apart' hown3 (by decide) (by decide) (Fr.of_grown hg4 (fun k hk => .inl hk))
        have hn4 : ∀ b, sv3.ownBlock = some b → w.heap.size ≤ b := fun b hb => by
          rcases hn3 b hb with h | h
          · exact HS.out b h
          · have := HB.out.size
            simp at h
            omega
        clear ht3 hf3 hn3 hf03 hown3 hb3 hg4
        go_wp2_with fail
        go_roundw
        case rel => exact ⟨k + 1, sv3, by omega, by go_num, by rw [HPL.out]; exact ht4, hn4, by rw [HPL.out]; simpa [ansL, ansI] using hown4, hb4⟩
        case measure => simp [intOf]; omega
      | none =>
        simp only [Option.getD_none, Option.isSome_none] at HD
        go_wp2_with (first | (go_at_call 22; refine HD.out.mono ?_; rintro e w3 ⟨rfl, sv3, ht3, hf3, hn3⟩; have hf03 : Fr (TS w.heap.size mb sv) wr w3 := ((Fr.refl _ wr).alloc _).trans hf3 (fun b hb => .inl hb); have hown3 := hf03.own HO.out (HT.out.apart HO.out (by decide) (by decide)); have hb3 : Below w.heap.size w w3 := HB.out.trans (hf03.below HB.out.size (fun b hb => by rcases hb with rfl | rfl | hb; exact Nat.le_refl _; exact hmb; exact HS.out b hb))) | (at_builtin; refine app1 w.heap.size w w3 (.int .i64 (-1)) 3 rfl _ _ 24 rfl i0 (.int .i64 0) 8 Try.underlying24 hi hz0 hz1 hz2 rfl (by decide) _ k _ rfl (Nat.le_refl _) hown3 hb3 rfl rfl (by omega) ?_))
        intro v4 w4 hown4 hb4 hg4
        have ht4 := ht3.apart' hown3 (by decide) (by decide) (Fr.of_grown hg4 (fun k hk => .inl hk))
        have hn4 : ∀ b, sv3.ownBlock = some b → w.heap.size ≤ b := fun b hb => by
          rcases hn3 b hb with h | h
          · exact HS.out b h
          · have := HB.out.size
            simp at h
            omega
        clear ht3 hf3 hn3 hf03 hown3 hb3 hg4
        go_wp2_with fail
        go_roundw
        case rel => exact ⟨k + 1, sv3, by omega, by go_num, by rw [HPL.out]; exact ht4, hn4, by rw [HPL.out]; simpa [ansL, ansI] using hown4, hb4⟩
        case measure => simp [intOf]; omega
    · obtain rfl : k = n := by omega
      rw [List.take_of_length_le (by omega)] at htk hownk
      obtain ⟨hc0, hc1⟩ := htk.cells
      have hmost := htk.most
      obtain ⟨g, cg, rfl, hg, hrd⟩ := htk.rd
      have HT := Lib.hid htk
      have HO := Lib.hid hownk
      have HB := Lib.hid hbk
      clear hc1 hsvk hr htk hownk hbk hown2' ht2
      go_wp2_with (at_builtin; refine appRS w.heap.size wr wr 3 33 rfl _ _ 25 rfl j0 _ 24 Try.underlying25 hj hy0 hy1 hy2 rfl (by decide) (by decide) _ 0 [] rfl (Nat.le_trans (Nat.le_refl _) HB.out.size) (World.ownsRow_nil _ _ _ _) (Below.refl _ _) _ (playN os).1.length cg _ rfl hrd (ndCells_one' _) (by omega) ?_)
      intro v5 w5 hown5 hb5 hg5
      go_wp2_with fail
      go_ret2
      have hf5 : Fr (fun _ => False) wr w5 := Fr.of_grown hg5 (fun k hk => by cases hk)
      exact ⟨_, _, rfl, hf5.own HO.out (fun _ _ h => h), by simpa using hown5, HB.out.trans hb5⟩
end Go.Proofs.Ytdpnififbpoagaa

namespace Go.Proofs.Ytdpnififbpoagaa
open Go.RowKit
set_option linter.unusedVariables false
set_option linter.unusedSimpArgs false

/-- a table that lies at B or behind it. -/
structure TabB (B : Nat) (w : World) (tb mb : Nat) (sv : Value) (ns : List Nd) : Prop where
  tab : Tab w tb mb sv ns
  le : ∀ b, TS tb mb sv b → B ≤ b
theorem TabB.below {B : Nat} {w w' : World} {tb mb : Nat} {sv : Value} {ns : List Nd} (h : TabB B w tb mb sv ns) (hb : Below w.heap.size w w') : TabB B w' tb mb sv ns := ⟨h.tab.below hb, h.le⟩
theorem TabB.after {B : Nat} {w w' : World} {tb mb : Nat} {sv : Value} {ns ns' : List Nd} (h : TabB B w tb mb sv ns) (hB : B ≤ w.heap.size) (ha : After w w' tb mb sv ns') :
    ∃ sv', TabB B w' tb mb sv' ns' ∧ Fr (TS tb mb sv) w w' ∧ Below B w w' := by
  obtain ⟨sv', ht, hf, hn⟩ := ha
  refine ⟨sv', ⟨ht, fun b hb => ?_⟩, hf, hf.below hB h.le⟩
  rcases hb with rfl | rfl | hb
  · exact h.le _ (.inl rfl)
  · exact h.le _ (.inr (.inl rfl))
  · rcases hn b hb with h' | h'
    · exact h.le b (.inr (.inr h'))
    · omega

set_option maxHeartbeats 4000000 in
theorem table_any (os : List Nd) (A : Option Addr) (n c : Nat) (w : World) (hl : os.length = n) (hnc : n ≤ 100000) (hr : Rd w 3 A n (ndCells os)) :
    Calls Try.prog 19 #[.slice A n c] w fun e w' => ∃ mb sv, e = .returned (.pointer (some ⟨w.heap.size, 0, none⟩)) ∧ TabB w.heap.size w' w.heap.size mb sv (playN os).1 ∧ Below w.heap.size w w' := by
  have N := new_tab w
  go_enter Try.func19, Try.ntmps19
  go_wp2_with (go_at_call 33; refine N.mono ?_; rintro e w1 ⟨rfl, sv0, mb, ht, hb1, hmb, hsv⟩)
  have ht0 : TabB w.heap.size w1 w.heap.size mb sv0 ns0 := ⟨ht, fun b hb => by
    rcases hb with rfl | rfl | hb
    · exact Nat.le_refl _
    · exact hmb
    · exact hsv b hb⟩
  clear N ht hmb hsv
  go_loopw [9] (fun i wr => ∃ (k : Nat) (sv : Value), k ≤ n ∧ i = .int .i64 k ∧ TabB w.heap.size wr w.heap.size mb sv (playN (os.take k)).1 ∧ Below w.heap.size w wr) (fun i _ => n - (intOf i).toNat)
  case atStart => exact ⟨0, sv0, Nat.zero_le _, rfl, ht0, hb1⟩
  case round =>
    obtain ⟨k, sv, hk, rfl, htk, hbk⟩ := hrel
    by_cases hlt : k < n
    · obtain ⟨b1, o1, rfl, hc1, hc2, hc3, hbs⟩ := (hr.below hbk).node3 k (by omega) hl
      have hpl := playN_take os k (by omega)
      have hgood := good_play (os.take k)
      generalize os[k] = op at *
      generalize playN (os.take k) = Pk at *
      have htk' := htk.below ((Below.refl _ _).alloc (Nat.le_refl _) (.cells #[.int .i64 op.k, .int .i64 op.a, .int .i64 op.b] 36))
      have hd := do_any w.heap.size mb sv Pk.1 op _ htk'.tab hgood.neg
      simp only [ansV] at hd
      have hpl' : (playN (os.take (k + 1))).1 = (doN Pk.1 op).1 := by rw [hpl]; rfl
      generalize doN Pk.1 op = D at *
      obtain ⟨ns', q⟩ := D
      simp only at hd hpl'
      generalize ((q.getD 0 : Nat) : Int) = z at *
      generalize q.isSome = z2 at *
      have HD := Lib.hid hd
      have HR := Lib.hid hr
      have HPL := Lib.hid hpl'
      have HT := Lib.hid htk'
      have HB := Lib.hid hbk
      clear hd hr hpl hpl' hgood htk hbk htk' hb1
      go_wp2_with (go_at_call 22; refine HD.out.mono ?_; rintro e w3 ⟨rfl, haft⟩)
      obtain ⟨sv3, ht3, _, hb3⟩ := HT.out.after (by have := HB.out.size; simp; omega) haft
      clear haft
      have hbn := (HB.out.alloc HB.out.size (.cells #[.int .i64 op.k, .int .i64 op.a, .int .i64 op.b] 36)).trans hb3
      clear hb3
      go_roundw
      case rel => exact ⟨k + 1, sv3, by omega, by go_num, by rw [HPL.out]; exact ht3, hbn⟩
      case measure => simp [intOf]; omega
    · obtain rfl : k = n := by omega
      rw [List.take_of_length_le (by omega)] at htk
      go_wp2_with fail
      go_ret
      exact ⟨mb, sv, rfl, htk, hbk⟩
end Go.Proofs.Ytdpnififbpoagaa
