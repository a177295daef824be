/- Contracts: attestlaw10.table, and Len, Node of a table. -/
import Derived.Test.YtdpnififbpoagaaNodePlay2
import Derived.Test.YtdpnififbpoagaaNodeEv
namespace Go.Proofs.Ytdpnififbpoagaa
open Go.RowKit
set_option linter.unusedVariables false
set_option linter.unusedSimpArgs false

/-- a table that lies at B or behind it. -/
structure TabB (B : Nat) (w : World) (tb mb : Nat) (sv : Value) (ns : List Nd) : Prop where
  tab : Tab w tb mb sv ns
  le : ∀ b, TS tb mb sv b → B ≤ b
theorem TabB.below {B : Nat} {w w' : World} {tb mb : Nat} {sv : Value} {ns : List Nd} (h : TabB B w tb mb sv ns) (hb : Below w.heap.size w w') : TabB B w' tb mb sv ns := ⟨h.tab.below hb, h.le⟩
theorem TabB.after {B : Nat} {w w' : World} {tb mb : Nat} {sv : Value} {ns ns' : List Nd} (h : TabB B w tb mb sv ns) (hB : B ≤ w.heap.size) (ha : After w w' tb mb sv ns') :
    ∃ sv', TabB B w' tb mb sv' ns' ∧ Fr (TS tb mb sv) w w' ∧ Below B w w' := by
  obtain ⟨sv', ht, hf, hn⟩ := ha
  refine ⟨sv', ⟨ht, fun b hb => ?_⟩, hf, hf.below hB h.le⟩
  rcases hb with rfl | rfl | hb
  · exact h.le _ (.inl rfl)
  · exact h.le _ (.inr (.inl rfl))
  · rcases hn b hb with h' | h'
    · exact h.le b (.inr (.inr h'))
    · omega

set_option maxHeartbeats 4000000 in
theorem table_any (os : List Nd) (A : Option Addr) (n c : Nat) (w : World) (hl : os.length = n) (hnc : n ≤ 100000) (hr : Rd w 3 A n (ndCells os)) :
    Calls Try.prog 19 #[.slice A n c] w fun e w' => ∃ mb sv, e = .returned (.pointer (some ⟨w.heap.size, 0, none⟩)) ∧ TabB w.heap.size w' w.heap.size mb sv (playN os).1 ∧ Below w.heap.size w w' := by
  have N := new_tab w
  go_enter Try.func19, Try.ntmps19
  go_wp2_with (go_at_call 33; refine N.mono ?_; rintro e w1 ⟨rfl, sv0, mb, ht, hb1, hmb, hsv⟩)
  have ht0 : TabB w.heap.size w1 w.heap.size mb sv0 ns0 := ⟨ht, fun b hb => by
    rcases hb with rfl | rfl | hb
    · exact Nat.le_refl _
    · exact hmb
    · exact hsv b hb⟩
  clear N ht hmb hsv
  go_loopw [9] (fun i wr => ∃ (k : Nat) (sv : Value), k ≤ n ∧ i = .int .i64 k ∧ TabB w.heap.size wr w.heap.size mb sv (playN (os.take k)).1 ∧ Below w.heap.size w wr) (fun i _ => n - (intOf i).toNat)
  case atStart => exact ⟨0, sv0, Nat.zero_le _, rfl, ht0, hb1⟩
  case round =>
    obtain ⟨k, sv, hk, rfl, htk, hbk⟩ := hrel
    by_cases hlt : k < n
    · obtain ⟨b1, o1, rfl, hc1, hc2, hc3, hbs⟩ := (hr.below hbk).node3 k (by omega) hl
      have hpl := playN_take os k (by omega)
      have hgood := good_play (os.take k)
      generalize os[k] = op at *
      generalize playN (os.take k) = Pk at *
      have htk' := htk.below ((Below.refl _ _).alloc (Nat.le_refl _) (.cells #[.int .i64 op.k, .int .i64 op.a, .int .i64 op.b] 36))
      have hd := do_any w.heap.size mb sv Pk.1 op _ htk'.tab hgood.neg
      simp only [ansV] at hd
      have hpl' : (playN (os.take (k + 1))).1 = (doN Pk.1 op).1 := by rw [hpl]; rfl
      generalize doN Pk.1 op = D at *
      obtain ⟨ns', q⟩ := D
      simp only at hd hpl'
      generalize ((q.getD 0 : Nat) : Int) = z at *
      generalize q.isSome = z2 at *
      have HD := Lib.hid hd
      have HR := Lib.hid hr
      have HPL := Lib.hid hpl'
      have HT := Lib.hid htk'
      have HB := Lib.hid hbk
      clear hd hr hpl hpl' hgood htk hbk htk' hb1
      go_wp2_with (go_at_call 22; refine HD.out.mono ?_; rintro e w3 ⟨rfl, haft⟩)
      obtain ⟨sv3, ht3, _, hb3⟩ := HT.out.after (by have := HB.out.size; simp; omega) haft
      clear haft
      have hbn := (HB.out.alloc HB.out.size (.cells #[.int .i64 op.k, .int .i64 op.a, .int .i64 op.b] 36)).trans hb3
      clear hb3
      go_roundw
      case rel => exact ⟨k + 1, sv3, by omega, by go_num, by rw [HPL.out]; exact ht3, hbn⟩
      case measure => simp [intOf]; omega
    · obtain rfl : k = n := by omega
      rw [List.take_of_length_le (by omega)] at htk
      go_wp2_with fail
      go_ret
      exact ⟨mb, sv, rfl, htk, hbk⟩
end Go.Proofs.Ytdpnififbpoagaa
