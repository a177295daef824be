/- Contract of package attestref10: Eval. -/
import Derived.Test.YtbcabcdgblmnkaaNodeEvR
import Derived.Test.YtbcabcdgblmnkaaBools
import Derived.Test.YtbcabcdgblmnkaaRefNode
namespace Go.Proofs.Ytbcabcdgblmnkaa
open Go.RowKit
set_option linter.unusedVariables false
set_option linter.unusedSimpArgs false

theorem evL_succ (ns : List Nd) (vals : List Bool) (k : Nat) : boolL (evL ns vals (k + 1)) = boolL (evL ns vals k) ++ [.bool (ev ns vals k)] := by simp [boolL, evL, ev]
theorem own_bool {w : World} {B k : Nat} {v : Value} {ns : List Nd} {vals : List Bool} (h : w.ownsRow B 4 1 v k (boolL (evL ns vals k))) (a : Nat) (ha : a < k) :
    ∃ g c, v = .slice (some ⟨g, 0, none⟩) k c ∧ g < w.heap.size ∧ ∀ a, a < k → w.cell? ⟨g, a, none⟩ = some (.bool (ev ns vals a)) := by
  obtain ⟨g, c, rfl, _, hg, _⟩ := owned_form h (by omega)
  refine ⟨g, c, rfl, hg, fun a ha => ?_⟩
  have := h.cellAt a (by omega)
  rw [this]
  simp [boolL, evL_get _ _ _ _ ha]

set_option maxRecDepth 100000 in
set_option maxHeartbeats 8000000 in
theorem rneval_any (ns : List Nd) (i : Nat) (vals : List Bool) (A1 A : Option Addr) (c1 n c : Nat) (w : World) (hG : Good ns) (hi : i < ns.length) (hr1 : Rd w 3 A1 ns.length (ndCells ns)) (hl : vals.length = n) (hr : Rd w 1 A n (boolL vals)) :
    Calls Try.prog 63 #[.slice A1 ns.length c1, .int .i64 (i : Int), .slice A n c] w fun e w' => e = .returned (.bool (ev ns vals i)) ∧ Below w.heap.size w w' := by
  obtain ⟨i0, hinf, hz0, hz1, hz2⟩ := info_parts info_bool
  have h2 := hG.most
  have HG := Lib.hid hG
  have HR := Lib.hid hr
  have HR1 := Lib.hid hr1
  clear hG hr hr1
  go_enter Try.func63, Try.ntmps63
  go_wp2_with fail
  go_loopw [7, 8, 10] (fun o x y wr => ∃ (k : Nat) (v : Value), k ≤ i + 1 ∧ x = .int .i64 k ∧ v = o ∧ wr.ownsRow w.heap.size 4 1 v k (boolL (evL ns vals k)) ∧ Below w.heap.size w wr) (fun _ x _ _ => i + 1 - (intOf x).toNat)
  case atStart => exact ⟨0, _, Nat.zero_le _, rfl, rfl, own_empty _ _ _ (Nat.le_refl _), (Below.refl _ _).alloc (Nat.le_refl _) _⟩
  case round =>
    obtain ⟨k, v, hk, rfl, rfl, hown, hbk⟩ := hrel
    have hrk := HR.out.below hbk
    by_cases hlt : k < i + 1
    · have hlt' : (k : Int) ≤ i := by omega
      have hev := HG.out.ev vals k (by omega)
      have hpt := HG.out.lt k (by omega)
      obtain ⟨g, o, rfl, x0, x1, x2, hg⟩ := (HR1.out.below hbk).nd3 k (by omega) rfl
      have hkl : k < ns.length := by omega
      have HB := Lib.hid hbk
      have HO := Lib.hid hown
      have HRK := Lib.hid hrk
      clear hbk hown hrk
      generalize nd ns k = X at *
      obtain ⟨xk, xa, xb⟩ := X
      simp only at x0 x1 x2 hpt hev
      obtain ⟨p3, p4, p5⟩ := hpt
      by_cases k2 : xk = 2
      · subst k2
        clear p3 p4 p5
        have hv : ev ns vals k = true := by rw [hev]; rfl
        have HEV := Lib.hid hv
        clear hev hv
        go_wp2_with (at_builtin; refine app1 w.heap.size w (wr.alloc (.cells #[.int .i64 2, .int .i64 xa, .int .i64 xb] 108)) (.bool true) 4 rfl _ _ 23 rfl i0 (.bool false) 1 Try.underlying23 hinf hz0 hz1 hz2 rfl (by decide) _ k _ rfl (Nat.le_refl _) (HO.out.alloc _) (HB.out.alloc HB.out.size _) (by simp [Act.eval]) rfl (by omega) ?_)
        intro v4 w4 hown4 hb4 _
        go_wp2_with fail
        go_roundw
        case rel => exact ⟨k + 1, _, by omega, by go_num, rfl, by rw [evL_succ, HEV.out]; exact hown4, hb4⟩
        case measure => simp [intOf]; omega
      by_cases k3 : xk = 3
      · subst k3
        clear p4 p5 k2
        have ha := p3 rfl
        obtain ⟨a, rfl⟩ : ∃ a : Nat, xa = a := ⟨xa.toNat, by omega⟩
        clear p3 ha
        by_cases han : a < n
        · obtain ⟨b5, o5, u, rfl, hu, hc5⟩ := HRK.out.at_ han
          have hb5 : b5 < wr.heap.size := World.block_lt_of_cell? _ _ hc5
          have hx : vals[a]? = some (vals.getD a false) := by rw [List.getD_eq_getElem?_getD, List.getElem?_eq_getElem (by omega)]; rfl
          simp only [boolL, List.getElem?_map, hx, Option.map_some, Option.some.injEq] at hu
          subst hu
          have hv : ev ns vals k = vals.getD a false := by rw [hev]; simp [ev1]
          generalize vals.getD a false = y at *
          have HEV := Lib.hid hv
          clear hev hv hx
          go_wp2_with (at_builtin; refine app1 w.heap.size w (wr.alloc (.cells #[.int .i64 3, .int .i64 (a:Int), .int .i64 xb] 108)) (.bool y) 4 rfl _ _ 23 rfl i0 (.bool false) 1 Try.underlying23 hinf hz0 hz1 hz2 rfl (by decide) _ k _ rfl (Nat.le_refl _) (HO.out.alloc _) (HB.out.alloc HB.out.size _) (by simp [Act.eval]) rfl (by omega) ?_)
          intro v4 w4 hown4 hb4 _
          go_wp2_with fail
          go_roundw
          case rel => exact ⟨k + 1, _, by omega, by go_num, rfl, by rw [evL_succ, HEV.out]; exact hown4, hb4⟩
          case measure => simp [intOf]; omega
        · have hv : ev ns vals k = false := by rw [hev]; simp [ev1, List.getElem?_eq_none (show vals.length ≤ a by omega)]
          have HEV := Lib.hid hv
          have han' : ¬ (a : Int) < n := by omega
          clear hev hv
          go_wp2_with (at_builtin; refine app1 w.heap.size w (wr.alloc (.cells #[.int .i64 3, .int .i64 (a:Int), .int .i64 xb] 108)) (.bool false) 4 rfl _ _ 23 rfl i0 (.bool false) 1 Try.underlying23 hinf hz0 hz1 hz2 rfl (by decide) _ k _ rfl (Nat.le_refl _) (HO.out.alloc _) (HB.out.alloc HB.out.size _) (by simp [Act.eval]) rfl (by omega) ?_)
          intro v4 w4 hown4 hb4 _
          go_wp2_with fail
          go_roundw
          case rel => exact ⟨k + 1, _, by omega, by go_num, rfl, by rw [evL_succ, HEV.out]; exact hown4, hb4⟩
          case measure => simp [intOf]; omega
      by_cases k4 : xk = 4
      · subst k4
        clear p3 p5 k2 k3
        obtain ⟨ha, hak⟩ := p4 rfl
        obtain ⟨a, rfl⟩ : ∃ a : Nat, xa = a := ⟨xa.toNat, by omega⟩
        obtain ⟨g5, c5, rfl, hg5, zr⟩ := own_bool HO.out a (by omega)
        have zra := zr a (by omega)
        have hv : ev ns vals k = !(ev ns vals a) := by rw [hev]; simp [ev1]
        clear zr
        generalize ev ns vals a = y at *
        have HEV := Lib.hid hv
        clear hev hv p4 ha
        go_wp2_with (at_builtin; refine app1 w.heap.size w (wr.alloc (.cells #[.int .i64 4, .int .i64 (a:Int), .int .i64 xb] 108)) (.bool (!y)) 4 rfl _ _ 23 rfl i0 (.bool false) 1 Try.underlying23 hinf hz0 hz1 hz2 rfl (by decide) _ k _ rfl (Nat.le_refl _) (HO.out.alloc _) (HB.out.alloc HB.out.size _) (by simp [Act.eval]) rfl (by omega) ?_)
        intro v4 w4 hown4 hb4 _
        go_wp2_with fail
        go_roundw
        case rel => exact ⟨k + 1, _, by omega, by go_num, rfl, by rw [evL_succ, HEV.out]; exact hown4, hb4⟩
        case measure => simp [intOf]; omega
      by_cases k5 : xk = 5
      · subst k5
        clear p3 p4 k2 k3 k4
        obtain ⟨ha, hak, hb, hbk⟩ := p5 (.inl rfl)
        obtain ⟨a, rfl⟩ : ∃ a : Nat, xa = a := ⟨xa.toNat, by omega⟩
        obtain ⟨b, rfl⟩ : ∃ b : Nat, xb = b := ⟨xb.toNat, by omega⟩
        obtain ⟨g5, c5, rfl, hg5, zr⟩ := own_bool HO.out a (by omega)
        have zra := zr a (by omega)
        have zrb := zr b (by omega)
        clear zr
        have hv : ev ns vals k = (ev ns vals a && ev ns vals b) := by rw [hev]; simp [ev1]
        generalize ev ns vals a = y at *
        generalize ev ns vals b = z at *
        have HEV := Lib.hid hv
        clear hev hv p5 ha hb
        cases y
        · rw [Bool.false_and] at HEV
          go_wp2_with (at_builtin; refine app1 w.heap.size w (wr.alloc (.cells #[.int .i64 5, .int .i64 (a:Int), .int .i64 (b:Int)] 108)) (.bool false) 4 rfl _ _ 23 rfl i0 (.bool false) 1 Try.underlying23 hinf hz0 hz1 hz2 rfl (by decide) _ k _ rfl (Nat.le_refl _) (HO.out.alloc _) (HB.out.alloc HB.out.size _) (by simp [Act.eval]) rfl (by omega) ?_)
          intro v4 w4 hown4 hb4 _
          go_wp2_with fail
          go_roundw
          case rel => exact ⟨k + 1, _, by omega, by go_num, rfl, by rw [evL_succ, HEV.out]; exact hown4, hb4⟩
          case measure => simp [intOf]; omega
        · rw [Bool.true_and] at HEV
          go_wp2_with (at_builtin; refine app1 w.heap.size w (wr.alloc (.cells #[.int .i64 5, .int .i64 (a:Int), .int .i64 (b:Int)] 108)) (.bool z) 4 rfl _ _ 23 rfl i0 (.bool false) 1 Try.underlying23 hinf hz0 hz1 hz2 rfl (by decide) _ k _ rfl (Nat.le_refl _) (HO.out.alloc _) (HB.out.alloc HB.out.size _) (by simp [Act.eval]) rfl (by omega) ?_)
          intro v4 w4 hown4 hb4 _
          go_wp2_with fail
          go_roundw
          case rel => exact ⟨k + 1, _, by omega, by go_num, rfl, by rw [evL_succ, HEV.out]; exact hown4, hb4⟩
          case measure => simp [intOf]; omega
      by_cases k6 : xk = 6
      · subst k6
        clear p3 p4 k2 k3 k4 k5
        obtain ⟨ha, hak, hb, hbk⟩ := p5 (.inr rfl)
        obtain ⟨a, rfl⟩ : ∃ a : Nat, xa = a := ⟨xa.toNat, by omega⟩
        obtain ⟨b, rfl⟩ : ∃ b : Nat, xb = b := ⟨xb.toNat, by omega⟩
        obtain ⟨g5, c5, rfl, hg5, zr⟩ := own_bool HO.out a (by omega)
        have zra := zr a (by omega)
        have zrb := zr b (by omega)
        clear zr
        have hv : ev ns vals k = (ev ns vals a || ev ns vals b) := by rw [hev]; simp [ev1]
        generalize ev ns vals a = y at *
        generalize ev ns vals b = z at *
        have HEV := Lib.hid hv
        clear hev hv p5 ha hb
        cases y
        · rw [Bool.false_or] at HEV
          go_wp2_with (at_builtin; refine app1 w.heap.size w (wr.alloc (.cells #[.int .i64 6, .int .i64 (a:Int), .int .i64 (b:Int)] 108)) (.bool z) 4 rfl _ _ 23 rfl i0 (.bool false) 1 Try.underlying23 hinf hz0 hz1 hz2 rfl (by decide) _ k _ rfl (Nat.le_refl _) (HO.out.alloc _) (HB.out.alloc HB.out.size _) (by simp [Act.eval]) rfl (by omega) ?_)
          intro v4 w4 hown4 hb4 _
          go_wp2_with fail
          go_roundw
          case rel => exact ⟨k + 1, _, by omega, by go_num, rfl, by rw [evL_succ, HEV.out]; exact hown4, hb4⟩
          case measure => simp [intOf]; omega
        · rw [Bool.true_or] at HEV
          go_wp2_with (at_builtin; refine app1 w.heap.size w (wr.alloc (.cells #[.int .i64 6, .int .i64 (a:Int), .int .i64 (b:Int)] 108)) (.bool true) 4 rfl _ _ 23 rfl i0 (.bool false) 1 Try.underlying23 hinf hz0 hz1 hz2 rfl (by decide) _ k _ rfl (Nat.le_refl _) (HO.out.alloc _) (HB.out.alloc HB.out.size _) (by simp [Act.eval]) rfl (by omega) ?_)
          intro v4 w4 hown4 hb4 _
          go_wp2_with fail
          go_roundw
          case rel => exact ⟨k + 1, _, by omega, by go_num, rfl, by rw [evL_succ, HEV.out]; exact hown4, hb4⟩
          case measure => simp [intOf]; omega
      · clear p3 p4 p5
        have hv : ev ns vals k = false := by rw [hev]; simp [ev1, k2, k3, k4, k5, k6]
        have HEV := Lib.hid hv
        clear hev hv
        go_wp2_with (at_builtin; refine app1 w.heap.size w (wr.alloc (.cells #[.int .i64 xk, .int .i64 xa, .int .i64 xb] 108)) (.bool false) 4 rfl _ _ 23 rfl i0 (.bool false) 1 Try.underlying23 hinf hz0 hz1 hz2 rfl (by decide) _ k _ rfl (Nat.le_refl _) (HO.out.alloc _) (HB.out.alloc HB.out.size _) (by simp [Act.eval]) rfl (by omega) ?_)
        intro v4 w4 hown4 hb4 _
        go_wp2_with fail
        go_roundw
        case rel => exact ⟨k + 1, _, by omega, by go_num, rfl, by rw [evL_succ, HEV.out]; exact hown4, hb4⟩
        case measure => simp [intOf]; omega
    · obtain rfl : k = i + 1 := by omega
      obtain ⟨g5, c5, rfl, hg5, zr⟩ := own_bool hown i (by omega)
      have z0 := zr i (by omega)
      have hlt' : ¬ ((i : Int) + 1) ≤ i := by omega
      clear zr
      go_wp2_with fail
      go_ret
      exact ⟨rfl, hbk⟩
end Go.Proofs.Ytbcabcdgblmnkaa
