/- Contract of attestref02.Sub on lists of bits. -/
import Derived.Test.YtlbbbafehhdpnaaGreatDoorNumOps
import Derived.Test.YtlbbbafehhdpnaaGreatDoorRatC
namespace Go.Proofs.YtlbbbafehhdpnaaGreatDoor
open Go.RowKit
set_option linter.unusedVariables false
set_option linter.unusedSimpArgs false

def SubI (L M o : List Bool) (i ow : Nat) : Prop := bvl o + bvl (M.take i) = bvl (L.take i) + ow * 2 ^ i
theorem subI_step {L M o : List Bool} {i ow : Nat} (h : SubI L M o i ow) (ho : o.length = i) (hi : i < L.length) (d : Bool) (ow' : Nat) (y : Bool) (hy : bvl (M.take (i + 1)) = bvl (M.take i) + 2 ^ i * y.toNat) (he : d.toNat + y.toNat + ow = L[i].toNat + 2 * ow') : SubI L M (o ++ [d]) (i + 1) ow' := by
  unfold SubI at h ⊢
  rw [bvl_snoc, ho, hy, bvl_take L i hi, Nat.pow_succ]
  exact sub_step _ _ _ _ _ _ _ _ _ h he
theorem subI_end {L M o : List Bool} {ow : Nat} (h : SubI L M o L.length ow) (ho : o.length = L.length) (hm : M.length ≤ L.length) (hle : bvl M ≤ bvl L) : bvl o = bvl L - bvl M := by
  unfold SubI at h
  rw [List.take_of_length_le hm, List.take_of_length_le (Nat.le_refl _)] at h
  have h1 := bvl_lt o
  rw [ho] at h1
  rcases Nat.eq_zero_or_pos ow with rfl | hp
  · rw [Nat.zero_mul] at h
    omega
  · have : 2 ^ L.length ≤ ow * 2 ^ L.length := Nat.le_mul_of_pos_left _ hp
    omega
set_option maxRecDepth 100000 in
set_option maxHeartbeats 4000000 in
theorem rsub_any {w : World} {A A2 : Option Addr} {n c n2 c2 : Nat} {L M : List Bool} (h : Bts w A n c L) (h2 : Bts w A2 n2 c2 M) (hn : n ≤ 1000000) (t2 : tight M) (hle : bvl M ≤ bvl L) :
    Calls Tryz.prog 76 #[.slice A n c, .slice A2 n2 c2] w fun e w' => ∃ A' n' c', e = .returned (.slice A' n' c') ∧ ∃ o, Bts w' A' n' c' o ∧ Fresh w.heap.size A' ∧ tight o ∧ bvl o = bvl L - bvl M ∧ o.length ≤ L.length ∧ Below w.heap.size w w' := by
  obtain ⟨i0, hi, hz0, hz1, hz2⟩ := info_parts info_bool
  have hl := h.len
  have hl2 := h2.len
  have hml := tight_len L M t2 hle
  have HR := Lib.hid h
  have HR2 := Lib.hid h2
  have HLE := Lib.hid hle
  clear h h2 t2 hle
  go_enter Tryz.func76, Tryz.ntmps76
  go_wp2_with fail
  go_loopw [5, 6, 12] (fun v g x wr => ∃ (i : Nat) (o : List Bool) (ob : Bool), i ≤ n ∧ x = .int .i64 i ∧ ((ob = false ∧ g = .int .i64 0) ∨ (ob = true ∧ g = .int .i64 1)) ∧ o.length = i ∧ wr.ownsRow w.heap.size 4 1 v i (boolL o) ∧ Below w.heap.size w wr ∧ SubI L M o i ob.toNat) (fun _ _ x _ => n - (intOf x).toNat)
  case atStart => exact ⟨0, [], false, by omega, rfl, .inl ⟨rfl, rfl⟩, rfl, own_empty _ _ _ (Nat.le_refl _), (Below.refl _ _).alloc (Nat.le_refl _) _, by simp [SubI, bvl]⟩
  case round =>
    obtain ⟨i, o, ob, hin, rfl, how, hol, hown, hb, hinv⟩ := hrel
    by_cases hlt : i < n
    · have hlt' : (i : Int) < (n : Int) := by omega
      have hi1 : i < L.length := by omega
      have h1 := HR.out.below hb
      have h2 := HR2.out.below hb
      obtain ⟨b1, o1, rfl, x0⟩ := h1.at_ i hi1
      have hst := fun d ow' y => subI_step hinv hol hi1 d ow' y
      have HB := Lib.hid hb
      have HO := Lib.hid hown
      have HH2 := Lib.hid h2
      clear hb hown h2 h1 hinv
      generalize L[i] = x at *
      by_cases hm : i < n2
      · have hm' : (i : Int) < (n2 : Int) := by omega
        obtain ⟨b2, o2, rfl, y0⟩ := HH2.out.at_ i (by omega)
        have hy := bvl_take M i (by omega)
        generalize M[i] = y at *
        have HY := Lib.hid hy
        clear hy hm
        rcases how with ⟨rfl, rfl⟩ | ⟨rfl, rfl⟩ <;> cases x <;> cases y
        ·
          have HSB := Lib.hid (hst false 0 false HY.out (by decide))
          clear hst
          go_wp2_with (at_builtin; refine app1 w.heap.size w wr _ 4 rfl _ _ 83 rfl i0 (.bool false) 1 Tryz.underlying83 hi hz0 hz1 hz2 rfl (by decide) _ i _ rfl (Nat.le_refl _) HO.out HB.out rfl rfl (by omega) ?_)
          intro v1 w1 hown1 hb1 _
          have HO1 := Lib.hid hown1
          have HB1 := Lib.hid hb1
          clear hown1 hb1
          go_wp2_with fail
          go_roundw
          case rel => exact ⟨i + 1, o ++ [false], false, by omega, by first | rfl | go_num, by first | exact .inl ⟨rfl, rfl⟩ | exact .inr ⟨rfl, rfl⟩, by simp; omega, by rw [boolL_append]; exact HO1.out, HB1.out, HSB.out⟩
          case measure => simp [intOf]; omega
        ·
          have HSB := Lib.hid (hst true 1 true HY.out (by decide))
          clear hst
          go_wp2_with (at_builtin; refine app1 w.heap.size w wr _ 4 rfl _ _ 83 rfl i0 (.bool false) 1 Tryz.underlying83 hi hz0 hz1 hz2 rfl (by decide) _ i _ rfl (Nat.le_refl _) HO.out HB.out rfl rfl (by omega) ?_)
          intro v1 w1 hown1 hb1 _
          have HO1 := Lib.hid hown1
          have HB1 := Lib.hid hb1
          clear hown1 hb1
          go_wp2_with fail
          go_roundw
          case rel => exact ⟨i + 1, o ++ [true], true, by omega, by first | rfl | go_num, by first | exact .inl ⟨rfl, rfl⟩ | exact .inr ⟨rfl, rfl⟩, by simp; omega, by rw [boolL_append]; exact HO1.out, HB1.out, HSB.out⟩
          case measure => simp [intOf]; omega
        ·
          have HSB := Lib.hid (hst true 0 false HY.out (by decide))
          clear hst
          go_wp2_with (at_builtin; refine app1 w.heap.size w wr _ 4 rfl _ _ 83 rfl i0 (.bool false) 1 Tryz.underlying83 hi hz0 hz1 hz2 rfl (by decide) _ i _ rfl (Nat.le_refl _) HO.out HB.out rfl rfl (by omega) ?_)
          intro v1 w1 hown1 hb1 _
          have HO1 := Lib.hid hown1
          have HB1 := Lib.hid hb1
          clear hown1 hb1
          go_wp2_with fail
          go_roundw
          case rel => exact ⟨i + 1, o ++ [true], false, by omega, by first | rfl | go_num, by first | exact .inl ⟨rfl, rfl⟩ | exact .inr ⟨rfl, rfl⟩, by simp; omega, by rw [boolL_append]; exact HO1.out, HB1.out, HSB.out⟩
          case measure => simp [intOf]; omega
        ·
          have HSB := Lib.hid (hst false 0 true HY.out (by decide))
          clear hst
          go_wp2_with (at_builtin; refine app1 w.heap.size w wr _ 4 rfl _ _ 83 rfl i0 (.bool false) 1 Tryz.underlying83 hi hz0 hz1 hz2 rfl (by decide) _ i _ rfl (Nat.le_refl _) HO.out HB.out rfl rfl (by omega) ?_)
          intro v1 w1 hown1 hb1 _
          have HO1 := Lib.hid hown1
          have HB1 := Lib.hid hb1
          clear hown1 hb1
          go_wp2_with fail
          go_roundw
          case rel => exact ⟨i + 1, o ++ [false], false, by omega, by first | rfl | go_num, by first | exact .inl ⟨rfl, rfl⟩ | exact .inr ⟨rfl, rfl⟩, by simp; omega, by rw [boolL_append]; exact HO1.out, HB1.out, HSB.out⟩
          case measure => simp [intOf]; omega
        ·
          have HSB := Lib.hid (hst true 1 false HY.out (by decide))
          clear hst
          go_wp2_with (at_builtin; refine app1 w.heap.size w wr _ 4 rfl _ _ 83 rfl i0 (.bool false) 1 Tryz.underlying83 hi hz0 hz1 hz2 rfl (by decide) _ i _ rfl (Nat.le_refl _) HO.out HB.out rfl rfl (by omega) ?_)
          intro v1 w1 hown1 hb1 _
          have HO1 := Lib.hid hown1
          have HB1 := Lib.hid hb1
          clear hown1 hb1
          go_wp2_with fail
          go_roundw
          case rel => exact ⟨i + 1, o ++ [true], true, by omega, by first | rfl | go_num, by first | exact .inl ⟨rfl, rfl⟩ | exact .inr ⟨rfl, rfl⟩, by simp; omega, by rw [boolL_append]; exact HO1.out, HB1.out, HSB.out⟩
          case measure => simp [intOf]; omega
        ·
          have HSB := Lib.hid (hst false 1 true HY.out (by decide))
          clear hst
          go_wp2_with (at_builtin; refine app1 w.heap.size w wr _ 4 rfl _ _ 83 rfl i0 (.bool false) 1 Tryz.underlying83 hi hz0 hz1 hz2 rfl (by decide) _ i _ rfl (Nat.le_refl _) HO.out HB.out rfl rfl (by omega) ?_)
          intro v1 w1 hown1 hb1 _
          have HO1 := Lib.hid hown1
          have HB1 := Lib.hid hb1
          clear hown1 hb1
          go_wp2_with fail
          go_roundw
          case rel => exact ⟨i + 1, o ++ [false], true, by omega, by first | rfl | go_num, by first | exact .inl ⟨rfl, rfl⟩ | exact .inr ⟨rfl, rfl⟩, by simp; omega, by rw [boolL_append]; exact HO1.out, HB1.out, HSB.out⟩
          case measure => simp [intOf]; omega
        ·
          have HSB := Lib.hid (hst false 0 false HY.out (by decide))
          clear hst
          go_wp2_with (at_builtin; refine app1 w.heap.size w wr _ 4 rfl _ _ 83 rfl i0 (.bool false) 1 Tryz.underlying83 hi hz0 hz1 hz2 rfl (by decide) _ i _ rfl (Nat.le_refl _) HO.out HB.out rfl rfl (by omega) ?_)
          intro v1 w1 hown1 hb1 _
          have HO1 := Lib.hid hown1
          have HB1 := Lib.hid hb1
          clear hown1 hb1
          go_wp2_with fail
          go_roundw
          case rel => exact ⟨i + 1, o ++ [false], false, by omega, by first | rfl | go_num, by first | exact .inl ⟨rfl, rfl⟩ | exact .inr ⟨rfl, rfl⟩, by simp; omega, by rw [boolL_append]; exact HO1.out, HB1.out, HSB.out⟩
          case measure => simp [intOf]; omega
        ·
          have HSB := Lib.hid (hst true 1 true HY.out (by decide))
          clear hst
          go_wp2_with (at_builtin; refine app1 w.heap.size w wr _ 4 rfl _ _ 83 rfl i0 (.bool false) 1 Tryz.underlying83 hi hz0 hz1 hz2 rfl (by decide) _ i _ rfl (Nat.le_refl _) HO.out HB.out rfl rfl (by omega) ?_)
          intro v1 w1 hown1 hb1 _
          have HO1 := Lib.hid hown1
          have HB1 := Lib.hid hb1
          clear hown1 hb1
          go_wp2_with fail
          go_roundw
          case rel => exact ⟨i + 1, o ++ [true], true, by omega, by first | rfl | go_num, by first | exact .inl ⟨rfl, rfl⟩ | exact .inr ⟨rfl, rfl⟩, by simp; omega, by rw [boolL_append]; exact HO1.out, HB1.out, HSB.out⟩
          case measure => simp [intOf]; omega
      · have hm' : ¬ (i : Int) < (n2 : Int) := by omega
        have hy : bvl (M.take (i + 1)) = bvl (M.take i) + 2 ^ i * (false).toNat := by rw [List.take_of_length_le (by omega), List.take_of_length_le (by omega)]; simp
        have HY := Lib.hid hy
        clear hy hm
        rcases how with ⟨rfl, rfl⟩ | ⟨rfl, rfl⟩ <;> cases x
        ·
          have HSB := Lib.hid (hst false 0 false HY.out (by decide))
          clear hst
          go_wp2_with (at_builtin; refine app1 w.heap.size w wr _ 4 rfl _ _ 83 rfl i0 (.bool false) 1 Tryz.underlying83 hi hz0 hz1 hz2 rfl (by decide) _ i _ rfl (Nat.le_refl _) HO.out HB.out rfl rfl (by omega) ?_)
          intro v1 w1 hown1 hb1 _
          have HO1 := Lib.hid hown1
          have HB1 := Lib.hid hb1
          clear hown1 hb1
          go_wp2_with fail
          go_roundw
          case rel => exact ⟨i + 1, o ++ [false], false, by omega, by first | rfl | go_num, by first | exact .inl ⟨rfl, rfl⟩ | exact .inr ⟨rfl, rfl⟩, by simp; omega, by rw [boolL_append]; exact HO1.out, HB1.out, HSB.out⟩
          case measure => simp [intOf]; omega
        ·
          have HSB := Lib.hid (hst true 0 false HY.out (by decide))
          clear hst
          go_wp2_with (at_builtin; refine app1 w.heap.size w wr _ 4 rfl _ _ 83 rfl i0 (.bool false) 1 Tryz.underlying83 hi hz0 hz1 hz2 rfl (by decide) _ i _ rfl (Nat.le_refl _) HO.out HB.out rfl rfl (by omega) ?_)
          intro v1 w1 hown1 hb1 _
          have HO1 := Lib.hid hown1
          have HB1 := Lib.hid hb1
          clear hown1 hb1
          go_wp2_with fail
          go_roundw
          case rel => exact ⟨i + 1, o ++ [true], false, by omega, by first | rfl | go_num, by first | exact .inl ⟨rfl, rfl⟩ | exact .inr ⟨rfl, rfl⟩, by simp; omega, by rw [boolL_append]; exact HO1.out, HB1.out, HSB.out⟩
          case measure => simp [intOf]; omega
        ·
          have HSB := Lib.hid (hst true 1 false HY.out (by decide))
          clear hst
          go_wp2_with (at_builtin; refine app1 w.heap.size w wr _ 4 rfl _ _ 83 rfl i0 (.bool false) 1 Tryz.underlying83 hi hz0 hz1 hz2 rfl (by decide) _ i _ rfl (Nat.le_refl _) HO.out HB.out rfl rfl (by omega) ?_)
          intro v1 w1 hown1 hb1 _
          have HO1 := Lib.hid hown1
          have HB1 := Lib.hid hb1
          clear hown1 hb1
          go_wp2_with fail
          go_roundw
          case rel => exact ⟨i + 1, o ++ [true], true, by omega, by first | rfl | go_num, by first | exact .inl ⟨rfl, rfl⟩ | exact .inr ⟨rfl, rfl⟩, by simp; omega, by rw [boolL_append]; exact HO1.out, HB1.out, HSB.out⟩
          case measure => simp [intOf]; omega
        ·
          have HSB := Lib.hid (hst false 0 false HY.out (by decide))
          clear hst
          go_wp2_with (at_builtin; refine app1 w.heap.size w wr _ 4 rfl _ _ 83 rfl i0 (.bool false) 1 Tryz.underlying83 hi hz0 hz1 hz2 rfl (by decide) _ i _ rfl (Nat.le_refl _) HO.out HB.out rfl rfl (by omega) ?_)
          intro v1 w1 hown1 hb1 _
          have HO1 := Lib.hid hown1
          have HB1 := Lib.hid hb1
          clear hown1 hb1
          go_wp2_with fail
          go_roundw
          case rel => exact ⟨i + 1, o ++ [false], false, by omega, by first | rfl | go_num, by first | exact .inl ⟨rfl, rfl⟩ | exact .inr ⟨rfl, rfl⟩, by simp; omega, by rw [boolL_append]; exact HO1.out, HB1.out, HSB.out⟩
          case measure => simp [intOf]; omega
    · obtain rfl : i = n := by omega
      obtain ⟨A', c', rfl, ho, hfr⟩ := Bts.of hown
      have hval := subI_end (L := L) (M := M) (o := o) (by rw [hl]; exact hinv) (by omega) hml HLE.out
      have hct := fun W hW => rcut_any (w := W) (ho.below hW) hn
      have HO := Lib.hid ho
      have HCT := Lib.hid (rcut_any ho hn)
      have HB := Lib.hid hb
      have HV := Lib.hid hval
      have HF := Lib.hid hfr
      clear hct ho hb hval hfr hown hinv
      go_wp2_with (go_at_call 60; refine HCT.out.mono ?_; rintro e w9 ⟨k, rfl, hk, hkn, hw⟩; obtain rfl := hw.symm)
      go_ret
      exact ⟨_, _, _, rfl, cutB o, hk, HF.out, tight_cut _, by rw [bvl_cut, HV.out], by have := cut_length o; omega, HB.out⟩
end Go.Proofs.YtlbbbafehhdpnaaGreatDoor

namespace Go.Proofs.YtlbbbafehhdpnaaGreatDoor
open Go.RowKit
set_option linter.unusedVariables false
set_option linter.unusedSimpArgs false

theorem Bts.set {w : World} {A : Option Addr} {n c g k : Nat} {l : List Bool} (h : Bts w A n c l) (hf : Fresh (g + 1) A) (u : Value) : Bts (w.setCell ⟨g, k, none⟩ u) A n c l :=
  ⟨Fr.rd (S := fun b => b = g) (fr_set (Fr.refl _ w) (.inl rfl)) h.rd (fun b o e hb => by have := hf _ e; simp at this; omega), h.len, h.cap⟩
theorem Bts.blk {w : World} {g n : Nat} {l : List Bool} (h : w.heap[g]? = some (.cells (boolL l).toArray 4 (0, 0))) (hl : l.length = n) : Bts w (some ⟨g, 0, none⟩) n n l := by
  refine ⟨⟨by rw [boolL_length]; omega, fun _ => ⟨g, 0, rfl, fun j x hx => ?_⟩⟩, hl, Nat.le_refl _⟩
  rw [Nat.zero_add, cell_of_blk h]
  simpa using hx
theorem boolL_set (vals : List Bool) (k : Nat) (b : Bool) : (boolL vals).set k (.bool b) = boolL (vals.set k b) := by simp [boolL, List.map_set]
theorem boolA_get (vals : List Bool) (k : Nat) (hk : k < vals.length) : (boolL vals).toArray[k]? = some (.bool vals[k]) := by simp [boolL, hk]
theorem boolA_set (vals : List Bool) (k : Nat) (b : Bool) : (boolL vals).toArray.setIfInBounds k (.bool b) = (boolL (vals.set k b)).toArray := by simp [boolL, List.map_set]
theorem boolL_rep (n : Nat) : List.replicate n (Value.bool false) = boolL (List.replicate n false) := by simp [boolL]
theorem bts_empty (w : World) (g : Nat) : Bts w (some ⟨g, 0, none⟩) 0 0 [] := ⟨⟨rfl, fun h => absurd h (by omega)⟩, rfl, Nat.le_refl _⟩
set_option maxRecDepth 100000 in
set_option maxHeartbeats 4000000 in
theorem rdiv_any {w : World} {A A2 : Option Addr} {n c n2 c2 : Nat} {L M : List Bool} (h : Bts w A n c L) (h2 : Bts w A2 n2 c2 M) (hn : n ≤ 100000) (hn2 : n2 ≤ 100000) (t2 : tight M) (hp : 0 < bvl M) :
    Calls Tryz.prog 65 #[.slice A n c, .slice A2 n2 c2] w fun e w' => ∃ A1 n1 c1 A3 n3 c3, e = .returned (.tuple #[.slice A1 n1 c1, .slice A3 n3 c3]) ∧ ∃ q r, Bts w' A1 n1 c1 q ∧ tight q ∧ n1 ≤ n ∧ Bts w' A3 n3 c3 r ∧ tight r ∧ bvl r < bvl M ∧ n3 ≤ n2 ∧ Below w.heap.size w w' := by
  obtain ⟨i0, hi, hz0, hz1, hz2⟩ := info_parts info_bool
  have hl := h.len
  have hl2 := h2.len
  have HR := Lib.hid h
  have HR2 := Lib.hid h2
  have HP := Lib.hid hp
  have HT := Lib.hid t2
  clear h h2 t2 hp
  go_enter Tryz.func65, Tryz.ntmps65
  go_wp2_with (at_make; refine make1 w.heap.size w w rfl _ _ 83 rfl 4 i0 (.bool false) 1 Tryz.underlying83 hi hz0 hz1 hz2 rfl (by decide) _ _ _ _ n rfl rfl rfl rfl (by omega) _ (boolL_rep n) (Nat.le_refl _) (Below.refl _ _) ?_)
  intro w1 hown hb1 hg1
  have hblk := full_blk hown
  have hlt := lt_of_blk hblk
  have HBL := Lib.hid hblk
  have HB1 := Lib.hid hb1
  clear hown hb1 hg1 hblk
  go_wp2_with fail
  go_loopw [7, 8] (fun v x wr => ∃ (k : Nat) (A5 : Option Addr) (m cc : Nat) (rl qs : List Bool), k ≤ n ∧ x = .int .i64 ((k : Int) - 1) ∧ v = .slice A5 m cc ∧ Bts wr A5 m cc rl ∧ Fresh (w.heap.size + 1) A5 ∧ tight rl ∧ bvl rl < bvl M ∧ qs.length = n ∧ wr.heap[w.heap.size]? = some (.cells (boolL qs).toArray 4 (0, 0)) ∧ Below w.heap.size w wr) (fun _ x _ => (intOf x + 1).toNat)
  case atStart => exact ⟨n, _, 0, 0, [], List.replicate n false, Nat.le_refl _, rfl, rfl, bts_empty _ _, (fun p hp => by cases hp; exact hlt), tight_nil, HP.out, by simp, (alloc_old _ hlt).trans HBL.out, HB1.out.alloc HB1.out.size _⟩
  case round =>
    obtain ⟨k, A5, m, cc, rl, qs, hk, rfl, rfl, hbt, hfr, htr, hlr, hql, hqb, hb⟩ := hrel
    have hml : m ≤ n2 := by
      have := tight_len M rl htr (by omega)
      have := hbt.len
      omega
    by_cases hk0 : 0 < k
    · obtain ⟨i, rfl⟩ : ∃ i, k = i + 1 := ⟨k - 1, by omega⟩
      have em : ((i + 1 : Nat) : Int) - 1 = i := by omega
      rw [em]
      obtain ⟨b1, o1, rfl, x0⟩ := (HR.out.below hb).at_ i (by omega)
      have hin : (i : Int) < (n : Int) := by omega
      generalize L[i] = x at *
      have HBT := Lib.hid hbt
      have HB := Lib.hid hb
      have HQB := Lib.hid hqb
      have HLR := Lib.hid hlr
      have hbs : Below wr.heap.size wr (wr.alloc (.cells #[.bool x] 4)) := (Below.refl _ _).alloc (Nat.le_refl _) _
      have hol : (wr.alloc (.cells #[.bool x] 4)).ownsRow wr.heap.size 4 1 (.slice (some ⟨wr.heap.size, 0, none⟩) 1 1) 1 (boolL [x]) := World.ownsRow_lit (base := wr.heap.size) (e := 4) (size := 1) wr #[.bool x] 1 (Nat.le_refl _) (by unfold maxLen; omega) rfl
      have HOL := Lib.hid hol
      have HBS := Lib.hid hbs
      clear hbt hb hqb hlr em hk0 hol hbs htr
      go_upto_region 7 with (first | (at_builtin; refine appR wr.heap.size wr (wr.alloc (.cells #[.bool x] 4)) 4 rfl _ _ 83 rfl i0 (.bool false) 1 Tryz.underlying83 hi hz0 hz1 hz2 rfl (by decide) _ 1 _ rfl (Nat.le_refl _) HOL.out HBS.out A5 m cc (boolL rl) rfl (HBT.out.rd.alloc _) (boolL_one _) (by omega) ?_; intro v6 w6 hown6 hb6 hg6; obtain ⟨A6, c6, rfl, hb6', hfr6⟩ := Bts.of (l := [x] ++ rl) hown6; have HB6 := Lib.hid hb6; have HFR6 := Lib.hid hfr6; have HCT := Lib.hid (rcut_any hb6' (by omega)); clear hown6 hb6 hg6 hb6' hfr6) | (go_at_call 60; refine HCT.out.mono ?_; clear HCT; rintro e w7 ⟨k7, rfl, hbt7, hk7, hw⟩; obtain rfl := hw.symm))
      have hb7 := HB.out.trans (HB6.out.mono HB.out.size)
      have hm7 := HR2.out.below hb7
      have hq7 := box_keep HQB.out HB6.out
      have hcmp := rcmp_any hbt7 hm7 (by omega) (by omega) (tight_cut _) HT.out
      have hv7 : bvl (cutB ([x] ++ rl)) = x.toNat + 2 * bvl rl := by rw [bvl_cut]; rfl
      have htt := tight_cut ([x] ++ rl)
      generalize cutB ([x] ++ rl) = r1 at *
      have hx1 : x.toNat ≤ 1 := by cases x <;> simp
      have hlr := HLR.out
      have HCM := Lib.hid hcmp
      have HB7 := Lib.hid hb7
      have HM7 := Lib.hid hm7
      have HQ7 := Lib.hid hq7
      have HBT7 := Lib.hid hbt7
      have hf7 : Fresh (w.heap.size + 1) A6 := fun p hp => by have := HFR6.out p hp; have := lt_of_blk HQB.out; omega
      have HF7 := Lib.hid hf7
      have HTT := Lib.hid htt
      clear hcmp hb7 hm7 hq7 hbt7 hf7 htt
      go_upto_if 31 with (go_at_call 75; refine HCM.out.mono ?_; clear HCM; rintro e w8 ⟨r, rfl, hcr, q8, rfl⟩)
      by_cases hle : bvl M ≤ bvl r1
      · have hr0 : 0 ≤ r := hcr.2 hle
        have hsub := rsub_any (HBT7.out.drewN q8) (HM7.out.drewN q8) (by omega) HT.out hle
        have HSUB := Lib.hid hsub
        have HV := Lib.hid hv7
        clear hsub hcr
        go_upto_region 9 with (go_at_call 76; refine HSUB.out.mono ?_; clear HSUB; rintro e w9 ⟨A9, n9, c9, rfl, o9, hb9, hfr9, ht9, hv9, hl9, hbe9⟩)
        have hq9 := box_keep (show (w6.drewN q8).heap[w.heap.size]? = _ from HQ7.out) hbe9
        have hs9 := set_blk hq9 i (.bool true)
        have c9' := cell_of_blk hq9 i
        rw [boolA_get qs i (by omega)] at c9'
        have z9 := frozen_of_blk hq9 i
        have hf9 : Fresh (w.heap.size + 1) A9 := fun p hp => by have h1 : w6.heap.size ≤ p.block := hfr9 p hp; have := lt_of_blk HQ7.out; omega
        have hbn := hb9.set (g := w.heap.size) (k := i) hf9 (.bool true)
        rw [boolA_set] at hs9
        have hbe : Below w.heap.size w (w9.setCell ⟨w.heap.size, i, none⟩ (.bool true)) := bl_set ((below_drewN HB7.out q8).trans (hbe9.mono (below_drewN HB7.out q8).size)) (Nat.le_refl _)
        have HS9 := Lib.hid hs9
        have HBN := Lib.hid hbn
        have HF9 := Lib.hid hf9
        have HT9 := Lib.hid ht9
        have HV9 := Lib.hid hv9
        have HBE := Lib.hid hbe
        generalize qs[i]'(by omega) = z at *
        clear hs9 hbn hf9 ht9 hv9 hbe hbe9 hfr9 hb9 hq9 hv7
        go_wp2_with fail
        go_roundw
        case rel => exact ⟨i, _, _, _, o9, qs.set i true, by omega, by first | rfl | go_num, rfl, HBN.out, HF9.out, HT9.out, by rw [HV9.out, HV.out]; omega, by rw [List.length_set]; exact hql, HS9.out, HBE.out⟩
        case measure => simp [intOf]
      · have hr0 : ¬ 0 ≤ r := fun e => hle (hcr.1 e)
        clear hcr
        go_wp2_with fail
        go_roundw
        case rel => exact ⟨i, _, _, _, r1, qs, by omega, by first | rfl | go_num, rfl, HBT7.out.drewN q8, HF7.out, HTT.out, by omega, hql, HQ7.out, below_drewN HB7.out q8⟩
        case measure => simp [intOf]
    · obtain rfl : k = 0 := by omega
      have e0 : ((0 : Nat) : Int) - 1 = -1 := rfl
      rw [e0]
      have hcq := rcut_any (Bts.blk hqb hql) (by omega)
      have HCQ := Lib.hid hcq
      have HBT := Lib.hid hbt
      have HB := Lib.hid hb
      have HTR := Lib.hid htr
      have HLR := Lib.hid hlr
      clear e0 hcq hbt hb htr hlr hqb hfr
      go_wp2_with (go_at_call 60; refine HCQ.out.mono ?_; clear HCQ; rintro e w7 ⟨k7, rfl, hbt7, hk7, hw⟩; obtain rfl := hw.symm)
      go_ret2
      exact ⟨_, _, _, _, _, _, rfl, cutB qs, rl, hbt7, tight_cut _, hk7, HBT.out, HTR.out, HLR.out, hml, HB.out⟩
end Go.Proofs.YtlbbbafehhdpnaaGreatDoor
