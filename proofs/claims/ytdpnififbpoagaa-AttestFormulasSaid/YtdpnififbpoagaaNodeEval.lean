/- Contract of package intern: Eval. -/
import Derived.Test.YtdpnififbpoagaaNodePlay
import Derived.Test.YtdpnififbpoagaaNodeEvR
import Derived.Test.YtdpnififbpoagaaBools
namespace Go.Proofs.Ytdpnififbpoagaa
open Go.RowKit
set_option linter.unusedVariables false
set_option linter.unusedSimpArgs false

/-- the row of truths when k of m are known. -/
def evRow (ns : List Nd) (vals : List Bool) (k m : Nat) : Array Value := (boolL (evL ns vals k) ++ List.replicate (m - k) (Value.bool false)).toArray
theorem evRow_zero (ns : List Nd) (vals : List Bool) (m : Nat) : evRow ns vals 0 m = (List.replicate m (Value.bool false)).toArray := by simp [evRow, boolL, evL]
theorem evRow_get (ns : List Nd) (vals : List Bool) (k m j : Nat) (h : j < k) : (evRow ns vals k m)[j]? = some (.bool (ev ns vals j)) := by
  simp only [evRow, List.getElem?_toArray]
  rw [List.getElem?_append_left (by simp [boolL, evL_length]; omega)]
  simp only [boolL, List.getElem?_map, evL_get _ _ _ _ h]
  rfl
theorem evRow_at (ns : List Nd) (vals : List Bool) (k m : Nat) (h : k < m) : (evRow ns vals k m)[k]? = some (.bool false) := by
  simp only [evRow, List.getElem?_toArray]
  rw [List.getElem?_append_right (by simp [boolL, evL_length])]
  have hl : (boolL (evL ns vals k)).length = k := by simp [boolL, evL_length]
  rw [hl, Nat.sub_self, List.getElem?_replicate, if_pos (by omega)]
theorem evRow_set (ns : List Nd) (vals : List Bool) (k m : Nat) (h : k < m) : (evRow ns vals k m).setIfInBounds k (.bool (ev ns vals k)) = evRow ns vals (k + 1) m := by
  apply Array.ext'
  simp only [evRow, List.setIfInBounds_toArray]
  have hl : (boolL (evL ns vals k)).length = k := by simp [boolL, evL_length]
  obtain ⟨d, rfl⟩ : ∃ d, m = k + 1 + d := ⟨m - (k + 1), by omega⟩
  rw [show k + 1 + d - k = d + 1 by omega, show k + 1 + d - (k + 1) = d by omega, List.replicate_succ]
  rw [List.set_append_right _ _ (by omega), hl, Nat.sub_self]
  simp [boolL, evL, ev]
theorem evRow_skip (ns : List Nd) (vals : List Bool) (k m : Nat) (h : k < m) (he : ev ns vals k = false) : evRow ns vals k m = evRow ns vals (k + 1) m := by
  rw [← evRow_set ns vals k m h, he]
  apply Array.ext_getElem?
  intro i
  by_cases hi : i = k
  · subst hi
    rw [Array.getElem?_setIfInBounds_self, evRow_at _ _ _ _ h]
    simp [evRow, boolL, evL_length]
    omega
  · rw [Array.getElem?_setIfInBounds_ne (by omega)]

theorem eval_out (tb mb : Nat) (sv : Value) (ns : List Nd) (i : Int) (A : Option Addr) (n c : Nat) (w : World) (h : Tab w tb mb sv ns) (hi : inB ns i = false) :
    Calls Try.prog 21 #[.pointer (some ⟨tb, 0, none⟩), .int .i64 i, .slice A n c] w fun e w' => e = .returned (.tuple #[.bool false, .bool false]) ∧ w' = w := by
  have L := len_old tb mb sv ns w h
  clear h
  have ho : i < 0 ∨ (ns.length : Int) ≤ i := by simp [inB] at hi; omega
  clear hi
  rcases ho with ho | ho
  · go_enter Try.func21, Try.ntmps21
    go_wp2_with fail
    go_ret2
    exact ⟨rfl, rfl⟩
  · have ho' : ¬ i < 0 := by omega
    go_enter Try.func21, Try.ntmps21
    go_wp2_with (go_at_call 20; refine L.mono ?_; rintro e w' ⟨rfl, rfl⟩)
    go_ret2
    exact ⟨rfl, rfl⟩

theorem step_blk {w : World} {g : Nat} {cs : Array Value} {t : TypeId} (h : w.heap[g]? = some (.cells cs t (0, 0))) (i : Nat) (u : Value) (o : Obj) : ((w.setCell ⟨g, i, none⟩ u).alloc o).heap[g]? = some (.cells (cs.setIfInBounds i u) t (0, 0)) :=
  (alloc_old o (lt_of_blk (set_blk h i u))).trans (set_blk h i u)
theorem below_set {B : Nat} {w : World} {p : Addr} (h : B ≤ w.heap.size) (hp : B ≤ p.block) (u : Value) : Below B w (w.setCell p u) :=
  Fr.below (S := fun b => b = p.block) ((Fr.refl _ w).setCell p u (.inl rfl)) h (fun b hb => by omega)
theorem step_below {B : Nat} {w0 w : World} (h : Below B w0 w) (hB : B ≤ w0.heap.size) {p : Addr} (hp : B ≤ p.block) (u : Value) (o : Obj) : Below B w0 ((w.setCell p u).alloc o) :=
  (h.trans (below_set (Nat.le_trans hB h.size) hp u)).alloc (by have := h.size; simp [World.setCell]; omega) o
set_option maxRecDepth 100000 in
set_option maxHeartbeats 4000000 in
theorem eval_in (tb mb : Nat) (sv : Value) (ns : List Nd) (i : Nat) (vals : List Bool) (A : Option Addr) (n c : Nat) (w : World) (h : Tab w tb mb sv ns) (hG : Good ns) (hi : i < ns.length) (hl : vals.length = n) (hr : Rd w 1 A n (boolL vals)) :
    Calls Try.prog 21 #[.pointer (some ⟨tb, 0, none⟩), .int .i64 (i : Int), .slice A n c] w fun e w' => e = .returned (.tuple #[.bool (ev ns vals i), .bool true]) ∧ Below w.heap.size w w' := by
  obtain ⟨i0, hinf, hz0, hz1, hz2⟩ := info_parts info_bool
  have L := len_old tb mb sv ns w h
  have h2 := hG.most
  have hi0 : ¬ (i : Int) < 0 := by omega
  have hi1 : ¬ (ns.length : Int) ≤ i := by omega
  go_enter Try.func21, Try.ntmps21
  go_wp2_with (first | (go_at_call 20; refine L.mono ?_; rintro e w' ⟨rfl, hw⟩; obtain rfl := hw.symm) | (at_make; refine make1 w.heap.size w w rfl _ _ 37 rfl 4 i0 (.bool false) 1 Try.underlying37 hinf hz0 hz1 hz2 rfl (by decide) .i64 .i64 ((i : Int) + 1) ((i : Int) + 1) (i + 1) rfl rfl (by omega) (by omega) (by omega) _ rfl (Nat.le_refl _) (Below.refl _ _) ?_))
  intro w2 hown2 hb2 hg2
  have hblk := full_blk hown2
  rw [← evRow_zero ns vals (i + 1)] at hblk
  have ht2 := h.below hb2
  have hr2 := hr.below hb2
  clear hown2 hg2 L
  clear ht2 hr2
  have H := Lib.hid h
  have HG := Lib.hid hG
  have HR := Lib.hid hr
  clear h hG hr
  go_wp2_with fail
  go_loopw [24] (fun x wr => ∃ k : Nat, k ≤ i + 1 ∧ x = .int .i64 k ∧ wr.heap[w.heap.size]? = some (.cells (evRow ns vals k (i + 1)) 4 (0, 0)) ∧ Below w.heap.size w wr) (fun x _ => i + 1 - (intOf x).toNat)
  case atStart => exact ⟨0, Nat.zero_le _, rfl, hblk, hb2⟩
  case round =>
    obtain ⟨k, hk, rfl, hblk', hbk⟩ := hrel
    have htk := H.out.below hbk
    have hrk := HR.out.below hbk
    by_cases hlt : k < i + 1
    · have hev := HG.out.ev vals k (by omega)
      have hpt := HG.out.lt k (by omega)
      obtain ⟨c0, c1⟩ := htk.cells
      obtain ⟨g, cg, rfl, hg, hrd⟩ := htk.rd
      obtain ⟨x0, x1, x2⟩ := hrd.nd3e k (by omega)
      simp only [Nat.zero_add] at x0 x1 x2
      have z0 := cell_of_blk hblk' k
      rw [evRow_at _ _ _ _ hlt] at z0
      have z1 := frozen_of_blk hblk' k
      have zr := fun j (hj : j < k) => (cell_of_blk hblk' j).trans (evRow_get ns vals k (i + 1) j hj)
      have hs1 : w.heap.size < wr.heap.size := lt_of_blk hblk'
      have hkl : k < ns.length := by omega
      have HBLK := Lib.hid hblk'
      have HB := Lib.hid hbk
      have ZR := Lib.hid zr
      have HRK := Lib.hid hrk
      clear c1 hrd htk hblk' hbk zr hblk hb2 hrk
      generalize nd ns k = X at *
      obtain ⟨xk, xa, xb⟩ := X
      simp only at x0 x1 x2 hpt hev
      obtain ⟨p3, p4, p5⟩ := hpt
      by_cases k2 : xk = 2
      · subst k2
        clear p3 p4 p5
        have hv : ev ns vals k = true := by rw [hev]; rfl
        have HEV := Lib.hid hv
        clear hev hv
        go_wp2_with fail
        go_roundw
        case rel => exact ⟨k + 1, by omega, by go_num, (step_blk HBLK.out k _ _).trans (by rw [← HEV.out, evRow_set _ _ _ _ hlt]), step_below HB.out (Nat.le_refl _) (Nat.le_refl _) _ _⟩
        case measure => simp [intOf]; omega
      by_cases k3 : xk = 3
      · subst k3
        clear p4 p5 k2
        have ha := p3 rfl
        obtain ⟨a, rfl⟩ : ∃ a : Nat, xa = a := ⟨xa.toNat, by omega⟩
        clear p3 ha
        by_cases han : a < n
        · obtain ⟨b5, o5, u, rfl, hu, hc5⟩ := HRK.out.at_ han
          have hb5 : b5 < wr.heap.size := World.block_lt_of_cell? _ _ hc5
          have hx : vals[a]? = some (vals.getD a false) := by rw [List.getD_eq_getElem?_getD, List.getElem?_eq_getElem (by omega)]; rfl
          simp only [boolL, List.getElem?_map, hx, Option.map_some, Option.some.injEq] at hu
          subst hu
          have hv : ev ns vals k = vals.getD a false := by rw [hev]; simp [ev1]
          generalize vals.getD a false = y at *
          have HEV := Lib.hid hv
          clear hev hv hx
          go_wp2_with fail
          go_roundw
          case rel => exact ⟨k + 1, by omega, by go_num, (step_blk HBLK.out k _ _).trans (by rw [← HEV.out, evRow_set _ _ _ _ hlt]), step_below HB.out (Nat.le_refl _) (Nat.le_refl _) _ _⟩
          case measure => simp [intOf]; omega
        · have hv : ev ns vals k = false := by rw [hev]; simp [ev1, List.getElem?_eq_none (show vals.length ≤ a by omega)]
          have HEV := Lib.hid hv
          have han' : ¬ (a : Int) < n := by omega
          clear hev hv
          go_wp2_with fail
          go_roundw
          case rel => exact ⟨k + 1, by omega, by go_num, (step_blk HBLK.out k _ _).trans (by rw [← HEV.out, evRow_set _ _ _ _ hlt]), step_below HB.out (Nat.le_refl _) (Nat.le_refl _) _ _⟩
          case measure => simp [intOf]; omega
      by_cases k4 : xk = 4
      · subst k4
        clear p3 p5 k2 k3
        obtain ⟨ha, hak⟩ := p4 rfl
        obtain ⟨a, rfl⟩ : ∃ a : Nat, xa = a := ⟨xa.toNat, by omega⟩
        have zra := ZR.out a (by omega)
        have hv : ev ns vals k = !(ev ns vals a) := by rw [hev]; simp [ev1]
        generalize ev ns vals a = y at *
        have HEV := Lib.hid hv
        clear hev hv p4 ha
        go_wp2_with fail
        go_roundw
        case rel => exact ⟨k + 1, by omega, by go_num, (step_blk HBLK.out k _ _).trans (by rw [← HEV.out, evRow_set _ _ _ _ hlt]), step_below HB.out (Nat.le_refl _) (Nat.le_refl _) _ _⟩
        case measure => simp [intOf]; omega
      by_cases k5 : xk = 5
      · subst k5
        clear p3 p4 k2 k3 k4
        obtain ⟨ha, hak, hb, hbk⟩ := p5 (.inl rfl)
        obtain ⟨a, rfl⟩ : ∃ a : Nat, xa = a := ⟨xa.toNat, by omega⟩
        obtain ⟨b, rfl⟩ : ∃ b : Nat, xb = b := ⟨xb.toNat, by omega⟩
        have zra := ZR.out a (by omega)
        have zrb := ZR.out b (by omega)
        have hv : ev ns vals k = (ev ns vals a && ev ns vals b) := by rw [hev]; simp [ev1]
        generalize ev ns vals a = y at *
        generalize ev ns vals b = z at *
        have HEV := Lib.hid hv
        clear hev hv p5 ha hb
        cases y
        · rw [Bool.false_and] at HEV
          go_wp2_with fail
          go_roundw
          case rel => exact ⟨k + 1, by omega, by go_num, (step_blk HBLK.out k _ _).trans (by rw [← HEV.out, evRow_set _ _ _ _ hlt]), step_below HB.out (Nat.le_refl _) (Nat.le_refl _) _ _⟩
          case measure => simp [intOf]; omega
        · rw [Bool.true_and] at HEV
          go_wp2_with fail
          go_roundw
          case rel => exact ⟨k + 1, by omega, by go_num, (step_blk HBLK.out k _ _).trans (by rw [← HEV.out, evRow_set _ _ _ _ hlt]), step_below HB.out (Nat.le_refl _) (Nat.le_refl _) _ _⟩
          case measure => simp [intOf]; omega
      by_cases k6 : xk = 6
      · subst k6
        clear p3 p4 k2 k3 k4 k5
        obtain ⟨ha, hak, hb, hbk⟩ := p5 (.inr rfl)
        obtain ⟨a, rfl⟩ : ∃ a : Nat, xa = a := ⟨xa.toNat, by omega⟩
        obtain ⟨b, rfl⟩ : ∃ b : Nat, xb = b := ⟨xb.toNat, by omega⟩
        have zra := ZR.out a (by omega)
        have zrb := ZR.out b (by omega)
        have hv : ev ns vals k = (ev ns vals a || ev ns vals b) := by rw [hev]; simp [ev1]
        generalize ev ns vals a = y at *
        generalize ev ns vals b = z at *
        have HEV := Lib.hid hv
        clear hev hv p5 ha hb
        cases y
        · rw [Bool.false_or] at HEV
          go_wp2_with fail
          go_roundw
          case rel => exact ⟨k + 1, by omega, by go_num, (step_blk HBLK.out k _ _).trans (by rw [← HEV.out, evRow_set _ _ _ _ hlt]), step_below HB.out (Nat.le_refl _) (Nat.le_refl _) _ _⟩
          case measure => simp [intOf]; omega
        · rw [Bool.true_or] at HEV
          go_wp2_with fail
          go_roundw
          case rel => exact ⟨k + 1, by omega, by go_num, (step_blk HBLK.out k _ _).trans (by rw [← HEV.out, evRow_set _ _ _ _ hlt]), step_below HB.out (Nat.le_refl _) (Nat.le_refl _) _ _⟩
          case measure => simp [intOf]; omega
      · clear p3 p4 p5
        have hv : ev ns vals k = false := by rw [hev]; simp [ev1, k2, k3, k4, k5, k6]
        have HEV := Lib.hid hv
        clear hev hv
        go_wp2_with fail
        go_roundw
        case rel => exact ⟨k + 1, by omega, by go_num, ((alloc_old _ (lt_of_blk HBLK.out)).trans HBLK.out).trans (by rw [evRow_skip _ _ _ _ hlt HEV.out]), HB.out.alloc HB.out.size _⟩
        case measure => simp [intOf]; omega
    · obtain rfl : k = i + 1 := by omega
      have z0 := (cell_of_blk hblk' i).trans (evRow_get ns vals (i + 1) (i + 1) i (by omega))
      go_wp2_with fail
      go_ret2
      exact ⟨rfl, hbk⟩
end Go.Proofs.Ytdpnififbpoagaa
