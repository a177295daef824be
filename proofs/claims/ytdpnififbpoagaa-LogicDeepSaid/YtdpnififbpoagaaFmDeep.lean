/- The law LogicDeep. -/
import Derived.Test.YtdpnififbpoagaaFmAwake
namespace Go.Proofs.Ytdpnififbpoagaa
open Go.RowKit
set_option linter.unusedVariables false
set_option linter.unusedSimpArgs false

def chain : Nat → Fm
  | 0 => .mk 1 0 []
  | i + 1 => .mk 2 0 [chain i]
theorem chain_size (i : Nat) : sizeF (chain i) = i + 1 := by
  induction i with
  | zero => simp [chain, sizeF, sizeL]
  | succ i ih => rw [chain, sizeF, sizeL, sizeL, ih]
theorem chain_deep (i d : Nat) : deepF (chain i) d = decide (200 < d + i) := by
  induction i generalizing d with
  | zero =>
    simp only [chain, deepF, deepL]
    by_cases h : 200 < d
    · rw [if_pos h, decide_eq_true (by omega)]
    · rw [if_neg h, decide_eq_false (by omega)]
  | succ i ih =>
    rw [chain, deepF, deepL, deepL, ih, Bool.or_false]
    by_cases h : 200 < d
    · rw [if_pos h, decide_eq_true (by omega)]
    · rw [if_neg h, show d + 1 + i = d + (i + 1) by omega]
theorem chain_shape (i : Nat) : shapeF (chain i) 1 = true := by
  induction i with
  | zero => simp [chain, shapeF]
  | succ i ih => rw [chain, shapeF, shapeL, shapeL, ih]; simp
theorem chain_eval (i : Nat) : evalF (chain i) [true] = decide (i % 2 = 0) := by
  induction i with
  | zero => simp [chain, evalF]
  | succ i ih =>
    rw [chain, evalF, if_neg (by decide), if_pos rfl, evalN, ih]
    by_cases h : i % 2 = 0
    · rw [decide_eq_true h, decide_eq_false (by omega)]; rfl
    · rw [decide_eq_false h, decide_eq_true (by omega)]; rfl
theorem chain_check (i : Nat) (hi : i ≤ 260) : checkF (chain i) ((1 : Nat) : Int) = if i < 200 then 0 else 2 := by
  rw [checkF_eq]
  have hg : great (chain i) = decide (200 ≤ i) := by
    unfold great
    rw [chain_deep, chain_size]
    rw [decide_eq_false (by omega : ¬ 20000 < i + 1), Bool.or_false]
    by_cases h : 200 ≤ i
    · rw [decide_eq_true h, decide_eq_true (by omega)]
    · rw [decide_eq_false h, decide_eq_false (by omega)]
  rw [hg, show ((1 : Nat) : Int) = 1 from rfl, chain_shape]
  by_cases h : i < 200
  · rw [if_pos h, if_neg (by simp; omega), if_pos rfl]
  · rw [if_neg h, if_pos (by simp; omega)]

/-- the chain lies behind block X, the formula itself at X. -/
structure Chn (X : Nat) (wr : World) (i : Nat) (sv : Value) : Prop where
  blk : wr.heap[X]? = some (.cells #[.int .i64 (chain i).k, .int .i64 (chain i).a, sv] 48 (0, 0))
  sub : FOn (fun b => X < b) wr (chain i).sub sv

set_option maxRecDepth 100000 in
set_option maxHeartbeats 4000000 in
theorem deep_walk (n : Int) (k : Nat) (hk : k ≤ 259) (hn : (0 ≤ n.tmod 260 ∧ n.tmod 260 = k) ∨ (n.tmod 260 < 0 ∧ -(n.tmod 260) = k)) (w : World) : Calls Try.prog 6 #[.int .i64 n] w fun e w' => e = .returned (.bool true) ∧ Below w.heap.size w w' := by
  have hb1 := Int.tmod_lt_of_pos n (by decide : (0 : Int) < 260)
  have hb2 := Int.lt_tmod_of_pos n (by decide : (0 : Int) < 260)
  have ha := fawake_any
  have hl := lit_any
  have HA := Lib.hid ha
  have HL := Lib.hid hl
  clear ha hl
  rcases hn with ⟨hn, hr⟩ | ⟨hn, hr⟩
  · have hn' : ¬ n.tmod 260 < 0 := by omega
    have HR := Lib.hid hr
    clear hr
    go_enter Try.func6, Try.ntmps6
    go_upto_region 5 with (go_at_call 23; refine (HL.out _ 0).mono ?_; rintro e w1 ⟨rfl, hb1⟩)
    rw [HR.out]
    go_wp2_with fail
    go_loopw [5] (fun x wr => ∃ (i : Nat) (sv : Value), i ≤ k ∧ x = .int .i64 i ∧ Chn w1.heap.size wr i sv ∧ Below w1.heap.size w1 wr) (fun x _ => k - (intOf x).toNat)
    case atStart => exact ⟨0, _, Nat.zero_le _, rfl, ⟨heap_alloc_new w1 _, FOn.nil _ _⟩, (Below.refl _ _).alloc (Nat.le_refl _) _⟩
    case round =>
      obtain ⟨i, sv, hi, rfl, hch, hbk⟩ := hrel
      obtain ⟨A, c, rfl, hc1, hc2⟩ := hch.sub.form
      have hX := lt_of_blk hch.blk
      have y0 := cell_of_blk hch.blk 0
      have y1 := cell_of_blk hch.blk 1
      have y2 := cell_of_blk hch.blk 2
      have z0 := frozen_of_blk hch.blk 0
      have z1 := frozen_of_blk hch.blk 1
      have z2 := frozen_of_blk hch.blk 2
      simp at y0 y1 y2
      have HCH := Lib.hid hch
      clear hch
      by_cases hlt : i < k
      · have hfo := HCH.out.sub
        have hnew := heap_alloc_new wr (.cells #[.int .i64 (chain i).k, .int .i64 (chain i).a, .slice A (chain i).sub.length c] 48)
        have hold := (alloc_old (.cells #[.int .i64 (chain i).k, .int .i64 (chain i).a, .slice A (chain i).sub.length c] 48) hX).trans HCH.out.blk
        have hcs : #[Value.int .i64 (chain i).k, .int .i64 (chain i).a, .slice A (chain i).sub.length c].toList = fCells [chain i] [.slice A (chain i).sub.length c] := rfl
        have hN : chain (i + 1) = .mk 2 0 [chain i] := rfl
        have H1 := Lib.hid hnew
        have H2 := Lib.hid hold
        have H3 := Lib.hid hfo
        have H5 := Lib.hid hcs
        have H6 := Lib.hid hN
        clear hfo hnew hold hcs hN
        generalize chain i = f at *
        have q0 := cell_of_blk H2.out 0
        have q1 := cell_of_blk H2.out 1
        have q2 := cell_of_blk H2.out 2
        have p0 := frozen_of_blk H2.out 0
        have p1 := frozen_of_blk H2.out 1
        have p2 := frozen_of_blk H2.out 2
        simp at q0 q1 q2
        go_wp2_with fail
        go_roundw
        case rel =>
          have hf3 := fr_set3 wr w1.heap.size (.int .i64 2) (.int .i64 0) (.slice (some ⟨wr.heap.size, 0, none⟩) 1 1)
          have hb3 := set_blk (set_blk (set_blk HCH.out.blk 0 (.int .i64 2)) 1 (.int .i64 0)) 2 (.slice (some ⟨wr.heap.size, 0, none⟩) 1 1)
          have hs3 : (((wr.setCell ⟨w1.heap.size, 0, none⟩ (.int .i64 2)).setCell ⟨w1.heap.size, 1, none⟩ (.int .i64 0)).setCell ⟨w1.heap.size, 2, none⟩ (.slice (some ⟨wr.heap.size, 0, none⟩) 1 1)).heap.size = wr.heap.size := by simp [World.setCell]
          have hbw := hbk.trans (hf3.below hbk.size (fun b e => by omega))
          refine ⟨i + 1, .slice (some ⟨wr.heap.size, 0, none⟩) 1 1, by omega, by go_num, ⟨?_, ?_⟩, hbw.alloc hbw.size _⟩
          · rw [H6.out, alloc_old _ (by rw [hs3]; exact hX)]
            simpa [Fm.k, Fm.a] using hb3
          · rw [H6.out]
            refine FOn.mk _ 1 1 [f] [.slice A f.sub.length c] rfl rfl (Nat.le_refl _) (by simp [maxLen]) ⟨rfl, fun _ => ⟨wr.heap.size, 0, rfl, fun j u hu => ?_⟩⟩ (fun b o _ e => by injection e with e; injection e with e _; omega) (fun j g s hg hs => ?_)
            · rw [Nat.zero_add, cell_of_blk (new_at _ _ _ hs3), ← hu, ← H5.out, Array.getElem?_toList]
            · cases j with
              | zero =>
                simp at hg hs
                subst hg hs
                exact (H3.out.fr hf3 (fun b hS e => by omega) (fun b _ hS => hS)).belo ((Below.refl _ _).alloc (Nat.le_refl _) _)
              | succ j => simp at hg
        case measure => simp [intOf]; omega
      · obtain rfl : i = k := by omega
        have hE := fun W (hW : Below wr.heap.size wr W) (hv : Rd W 1 (some ⟨wr.heap.size, 0, none⟩) 1 (boolL [true])) => leval_any (HCH.out.sub.fin.at_ hW) [true] (some ⟨wr.heap.size, 0, none⟩) 1 1 rfl hv W (chain i).k (chain i).a (Below.refl _ _)
        rw [(chain i).eta, chain_check i (by omega), chain_eval] at hE
        have h1 := hE (wr.alloc (.cells #[.bool true] 4)) ((Below.refl _ _).alloc (Nat.le_refl _) _) (rd_lit wr #[.bool true] 4)
        have HB3 := Lib.hid (hbk.alloc hbk.size (.cells #[.bool true] 4))
        clear hE
        generalize (chain i).k = fk at *
        generalize (chain i).a = fa at *
        generalize (chain i).sub.length = fn at *
        by_cases h200 : i < 200
        · have h200' : ¬ (200 : Int) ≤ (i : Int) := by omega
          rw [if_pos h200, if_pos rfl] at h1
          go_wp2_with (first | (go_at_call 24; refine h1.mono ?_; rintro e w5 ⟨rfl, hb5⟩; have HB5 := Lib.hid (HB3.out.trans (hb5.mono HB3.out.size)); clear hb5) | (go_at_call 25; refine (HA.out _).mono ?_; rintro e w6 ⟨rfl, hb6⟩))
          go_ret
          exact ⟨ret_bool (by by_cases h : i % 2 = 0 <;> simp [h] <;> omega), hb1.trans ((HB5.out.trans (hb6.mono HB5.out.size)).mono hb1.size)⟩
        · have h200' : (200 : Int) ≤ (i : Int) := by omega
          rw [if_neg h200, if_neg (by decide)] at h1
          go_wp2_with (first | (go_at_call 24; refine h1.mono ?_; rintro e w5 ⟨rfl, hb5⟩; have HB5 := Lib.hid (HB3.out.trans (hb5.mono HB3.out.size)); clear hb5) | (go_at_call 25; refine (HA.out _).mono ?_; rintro e w6 ⟨rfl, hb6⟩))
          go_ret
          exact ⟨rfl, hb1.trans ((HB5.out.trans (hb6.mono HB5.out.size)).mono hb1.size)⟩
  · have HR := Lib.hid hr
    clear hr
    go_enter Try.func6, Try.ntmps6
    go_upto_region 5 with (go_at_call 23; refine (HL.out _ 0).mono ?_; rintro e w1 ⟨rfl, hb1⟩)
    rw [HR.out]
    go_wp2_with fail
    go_loopw [5] (fun x wr => ∃ (i : Nat) (sv : Value), i ≤ k ∧ x = .int .i64 i ∧ Chn w1.heap.size wr i sv ∧ Below w1.heap.size w1 wr) (fun x _ => k - (intOf x).toNat)
    case atStart => exact ⟨0, _, Nat.zero_le _, rfl, ⟨heap_alloc_new w1 _, FOn.nil _ _⟩, (Below.refl _ _).alloc (Nat.le_refl _) _⟩
    case round =>
      obtain ⟨i, sv, hi, rfl, hch, hbk⟩ := hrel
      obtain ⟨A, c, rfl, hc1, hc2⟩ := hch.sub.form
      have hX := lt_of_blk hch.blk
      have y0 := cell_of_blk hch.blk 0
      have y1 := cell_of_blk hch.blk 1
      have y2 := cell_of_blk hch.blk 2
      have z0 := frozen_of_blk hch.blk 0
      have z1 := frozen_of_blk hch.blk 1
      have z2 := frozen_of_blk hch.blk 2
      simp at y0 y1 y2
      have HCH := Lib.hid hch
      clear hch
      by_cases hlt : i < k
      · have hfo := HCH.out.sub
        have hnew := heap_alloc_new wr (.cells #[.int .i64 (chain i).k, .int .i64 (chain i).a, .slice A (chain i).sub.length c] 48)
        have hold := (alloc_old (.cells #[.int .i64 (chain i).k, .int .i64 (chain i).a, .slice A (chain i).sub.length c] 48) hX).trans HCH.out.blk
        have hcs : #[Value.int .i64 (chain i).k, .int .i64 (chain i).a, .slice A (chain i).sub.length c].toList = fCells [chain i] [.slice A (chain i).sub.length c] := rfl
        have hN : chain (i + 1) = .mk 2 0 [chain i] := rfl
        have H1 := Lib.hid hnew
        have H2 := Lib.hid hold
        have H3 := Lib.hid hfo
        have H5 := Lib.hid hcs
        have H6 := Lib.hid hN
        clear hfo hnew hold hcs hN
        generalize chain i = f at *
        have q0 := cell_of_blk H2.out 0
        have q1 := cell_of_blk H2.out 1
        have q2 := cell_of_blk H2.out 2
        have p0 := frozen_of_blk H2.out 0
        have p1 := frozen_of_blk H2.out 1
        have p2 := frozen_of_blk H2.out 2
        simp at q0 q1 q2
        go_wp2_with fail
        go_roundw
        case rel =>
          have hf3 := fr_set3 wr w1.heap.size (.int .i64 2) (.int .i64 0) (.slice (some ⟨wr.heap.size, 0, none⟩) 1 1)
          have hb3 := set_blk (set_blk (set_blk HCH.out.blk 0 (.int .i64 2)) 1 (.int .i64 0)) 2 (.slice (some ⟨wr.heap.size, 0, none⟩) 1 1)
          have hs3 : (((wr.setCell ⟨w1.heap.size, 0, none⟩ (.int .i64 2)).setCell ⟨w1.heap.size, 1, none⟩ (.int .i64 0)).setCell ⟨w1.heap.size, 2, none⟩ (.slice (some ⟨wr.heap.size, 0, none⟩) 1 1)).heap.size = wr.heap.size := by simp [World.setCell]
          have hbw := hbk.trans (hf3.below hbk.size (fun b e => by omega))
          refine ⟨i + 1, .slice (some ⟨wr.heap.size, 0, none⟩) 1 1, by omega, by go_num, ⟨?_, ?_⟩, hbw.alloc hbw.size _⟩
          · rw [H6.out, alloc_old _ (by rw [hs3]; exact hX)]
            simpa [Fm.k, Fm.a] using hb3
          · rw [H6.out]
            refine FOn.mk _ 1 1 [f] [.slice A f.sub.length c] rfl rfl (Nat.le_refl _) (by simp [maxLen]) ⟨rfl, fun _ => ⟨wr.heap.size, 0, rfl, fun j u hu => ?_⟩⟩ (fun b o _ e => by injection e with e; injection e with e _; omega) (fun j g s hg hs => ?_)
            · rw [Nat.zero_add, cell_of_blk (new_at _ _ _ hs3), ← hu, ← H5.out, Array.getElem?_toList]
            · cases j with
              | zero =>
                simp at hg hs
                subst hg hs
                exact (H3.out.fr hf3 (fun b hS e => by omega) (fun b _ hS => hS)).belo ((Below.refl _ _).alloc (Nat.le_refl _) _)
              | succ j => simp at hg
        case measure => simp [intOf]; omega
      · obtain rfl : i = k := by omega
        have hE := fun W (hW : Below wr.heap.size wr W) (hv : Rd W 1 (some ⟨wr.heap.size, 0, none⟩) 1 (boolL [true])) => leval_any (HCH.out.sub.fin.at_ hW) [true] (some ⟨wr.heap.size, 0, none⟩) 1 1 rfl hv W (chain i).k (chain i).a (Below.refl _ _)
        rw [(chain i).eta, chain_check i (by omega), chain_eval] at hE
        have h1 := hE (wr.alloc (.cells #[.bool true] 4)) ((Below.refl _ _).alloc (Nat.le_refl _) _) (rd_lit wr #[.bool true] 4)
        have HB3 := Lib.hid (hbk.alloc hbk.size (.cells #[.bool true] 4))
        clear hE
        generalize (chain i).k = fk at *
        generalize (chain i).a = fa at *
        generalize (chain i).sub.length = fn at *
        by_cases h200 : i < 200
        · have h200' : ¬ (200 : Int) ≤ (i : Int) := by omega
          rw [if_pos h200, if_pos rfl] at h1
          go_wp2_with (first | (go_at_call 24; refine h1.mono ?_; rintro e w5 ⟨rfl, hb5⟩; have HB5 := Lib.hid (HB3.out.trans (hb5.mono HB3.out.size)); clear hb5) | (go_at_call 25; refine (HA.out _).mono ?_; rintro e w6 ⟨rfl, hb6⟩))
          go_ret
          exact ⟨ret_bool (by by_cases h : i % 2 = 0 <;> simp [h] <;> omega), hb1.trans ((HB5.out.trans (hb6.mono HB5.out.size)).mono hb1.size)⟩
        · have h200' : (200 : Int) ≤ (i : Int) := by omega
          rw [if_neg h200, if_neg (by decide)] at h1
          go_wp2_with (first | (go_at_call 24; refine h1.mono ?_; rintro e w5 ⟨rfl, hb5⟩; have HB5 := Lib.hid (HB3.out.trans (hb5.mono HB3.out.size)); clear hb5) | (go_at_call 25; refine (HA.out _).mono ?_; rintro e w6 ⟨rfl, hb6⟩))
          go_ret
          exact ⟨rfl, hb1.trans ((HB5.out.trans (hb6.mono HB5.out.size)).mono hb1.size)⟩
theorem deep_law {w : World} (n : Int) (hn : (Lit.int .i64 n).wf = true) : Calls Try.prog 6 #[.int .i64 n] w fun e w' => e = .returned (.bool true) ∧ Below w.heap.size w w' := by
  have hb1 := Int.tmod_lt_of_pos n (by decide : (0 : Int) < 260)
  have hb2 := Int.lt_tmod_of_pos n (by decide : (0 : Int) < 260)
  exact deep_walk n (n.tmod 260).natAbs (by omega) (by omega) w
end Go.Proofs.Ytdpnififbpoagaa
