/- Contracts of the reference of formulas: Nodes, over, Form, Check. -/
import Derived.Test.YtdpnififbpoagaaFmTold2
namespace Go.Proofs.Ytdpnififbpoagaa
open Go.RowKit
set_option linter.unusedVariables false
set_option linter.unusedSimpArgs false

theorem nodes_snoc (fs : List Fm) (i : Nat) (f : Fm) (hf : fs[i]? = some f) : sizeL (fs.take (i + 1)) = sizeL (fs.take i) + sizeF f := by
  rw [List.take_add_one, hf, sizeL_append]
  simp [sizeL]
set_option maxRecDepth 100000 in
set_option maxHeartbeats 4000000 in
theorem nodes_any {w0 : World} {fs : List Fm} {sv : Value} (h : FIn w0 fs sv) : ∀ (w : World) (k a : Int) (most : Nat), Below w0.heap.size w0 w → most ≤ 20000 →
    Calls Try.prog 34 #[.agg #[.int .i64 k, .int .i64 a, sv], .int .i64 (most : Int)] w fun e w' => e = .returned (.int .i64 (nodesF (.mk k a fs) most : Nat)) ∧ Below w.heap.size w w' := by
  induction h with
  | mk A m c fs ss hl hs hnc hc hr hsub ih =>
    intro w k a most hb hmost
    unfold maxLen at hc
    have hN : nodesF (.mk k a fs) most = min (sizeL fs + 1) (most + 1) := by unfold nodesF; rw [sizeF]
    generalize nodesF (.mk k a fs) most = N at *
    have hfm : ∀ (i : Nat) (s : Value), ss[i]? = some s → ∃ A n c, s = Value.slice A n c := fun i s hi => by
      have hlt := (List.getElem?_eq_some_iff.1 hi).1
      obtain ⟨A', c', e, _⟩ := (hsub i _ s (List.getElem?_eq_getElem (by omega)) hi).form
      exact ⟨A', _, c', e⟩
    have HSUB := Lib.hid hfm
    have HIH := Lib.hid ih
    have HR := Lib.hid hr
    have HB := Lib.hid hb
    have HN := Lib.hid hN
    clear ih hsub hr hb hN hfm
    go_enter Try.func34, Try.ntmps34
    go_wp2_with fail
    go_loopw [5, 11] (fun y x wr => ∃ (i t : Nat), i ≤ m ∧ x = .int .i64 i ∧ y = .int .i64 t ∧ t ≤ most + 1 ∧ t = min (sizeL (fs.take i) + 1) (most + 1) ∧ Below w.heap.size w wr) (fun _ x _ => m - (intOf x).toNat)
    case atStart => exact ⟨0, 1, Nat.zero_le _, rfl, rfl, by omega, by simp [sizeL], (Below.refl _ _).alloc (Nat.le_refl _) _⟩
    case round =>
      obtain ⟨i, t, hi, rfl, rfl, htm, htt, hbk⟩ := hrel
      by_cases hlt : i < m
      · have hf : fs[i]? = some fs[i] := List.getElem?_eq_getElem (by omega)
        have hss : ss[i]? = some ss[i] := List.getElem?_eq_getElem (by omega)
        have h0r : Below w0.heap.size w0 wr := HB.out.trans (hbk.mono HB.out.size)
        obtain ⟨b, off, rfl, x0, x1, x2, hbs⟩ := (HR.out.below h0r).f3 i hlt hf hss
        have hsn := nodes_snoc fs i _ hf
        have hle : sizeL (fs.take (i + 1)) ≤ sizeL fs := by
          have := sizeL_append (fs.take (i + 1)) (fs.drop (i + 1))
          rw [List.take_append_drop] at this
          omega
        generalize fs[i] = f at *
        generalize ss[i] = s at *
        obtain ⟨A', n', c', rfl⟩ := HSUB.out i s hss
        have hp := sizeF_pos f
        by_cases ht : most < t
        · have ht' : (most : Int) < (t : Int) := by omega
          have hNt : N = t := by have := HN.out; omega
          have HB2 := Lib.hid hbk
          clear hbk hf hss h0r htt hsn ht hle hp
          subst hNt
          go_wp2_with fail
          go_ret
          exact ⟨rfl, HB2.out.alloc HB2.out.size _⟩
        · have ht' : ¬ (most : Int) < (t : Int) := by omega
          have hcall := HIH.out i f _ hf hss (wr.alloc (.cells #[.int .i64 f.k, .int .i64 f.a, .slice A' n' c'] 57)) f.k f.a (most - t) (h0r.alloc h0r.size _) (by omega)
          rw [f.eta, show ((most - t : Nat) : Int) = (most : Int) - (t : Int) by omega] at hcall
          have hu : nodesF f (most - t) = min (sizeF f) (most - t + 1) := rfl
          generalize nodesF f (most - t) = u at *
          have hu2 : t + u ≤ most + 1 := by omega
          have hu3 : t + u = min (sizeL (fs.take (i + 1)) + 1) (most + 1) := by omega
          have HU := Lib.hid hu3
          have HB2 := Lib.hid hbk
          clear hbk hf hss h0r htt hsn hle hp hu hu3 ht
          go_wp2_with (go_at_call 34; refine hcall.mono ?_; rintro e w3 ⟨rfl, hb3⟩)
          go_roundw
          case rel => exact ⟨i + 1, t + u, by omega, by go_num, by go_num, hu2, HU.out, (HB2.out.alloc HB2.out.size _).trans (hb3.mono (by have := HB2.out.size; simp; omega))⟩
          case measure => simp [intOf]; omega
      · obtain rfl : i = m := by omega
        rw [List.take_of_length_le (by omega)] at htt
        have hNt : N = t := by have := HN.out; omega
        clear htt
        subst hNt
        go_wp2_with fail
        go_ret
        exact ⟨rfl, hbk⟩
end Go.Proofs.Ytdpnififbpoagaa
