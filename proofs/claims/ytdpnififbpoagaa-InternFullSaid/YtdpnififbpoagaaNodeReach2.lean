/- Contract of package intern: Reach. -/
import Derived.Test.YtdpnififbpoagaaNodeReach
namespace Go.Proofs.Ytdpnififbpoagaa
open Go.RowKit
set_option linter.unusedVariables false
set_option linter.unusedSimpArgs false

theorem reach_out (tb mb : Nat) (sv : Value) (ns : List Nd) (i : Int) (w : World) (h : Tab w tb mb sv ns) (hi : inB ns i = false) :
    Calls Try.prog 40 #[.pointer (some ⟨tb, 0, none⟩), .int .i64 i] w fun e w' => e = .returned (.slice none 0 0) ∧ w' = w := by
  have L := len_old tb mb sv ns w h
  clear h
  have ho : i < 0 ∨ (ns.length : Int) ≤ i := by simp [inB] at hi; omega
  clear hi
  rcases ho with ho | ho
  · go_enter Try.func40, Try.ntmps40
    go_wp2_with fail
    go_ret
    exact ⟨rfl, rfl⟩
  · have ho' : ¬ i < 0 := by omega
    go_enter Try.func40, Try.ntmps40
    go_wp2_with (go_at_call 20; refine L.mono ?_; rintro e w' ⟨rfl, rfl⟩)
    go_ret
    exact ⟨rfl, rfl⟩

theorem Good.pr {ns : List Nd} (h : Good ns) (i : Nat) (hi : i < ns.length) (hk : 4 ≤ (nd ns i).k) (h4 : (nd ns i).k ≠ 4) : 0 ≤ (nd ns i).a ∧ (nd ns i).a < (nd ns i).b ∧ (nd ns i).b < i := by
  by_cases h2 : 2 ≤ i
  · rcases h.parts i h2 hi with ⟨h1, _⟩ | ⟨h1, _⟩ | ⟨h1, h3, h4, h5⟩
    · omega
    · omega
    · exact ⟨by omega, h4, h5⟩
  · have : i = 0 ∨ i = 1 := by omega
    rcases this with rfl | rfl
    · rw [h.n0] at hk; simp at hk
    · rw [h.n1] at hk; simp at hk
/-- what holds of the world in the first loop. -/
structure RSt (B : Nat) (w wr : World) (r : List Bool) (i : Nat) : Prop where
  blk : wr.heap[B]? = some (.cells (boolL r).toArray 4 (0, 0))
  bel : Below B w wr
  len : r.length = i + 1
section
variable {B : Nat} {w wr : World} {r : List Bool} {i : Nat}
theorem RSt.alloc (h : RSt B w wr r i) (hB : B ≤ w.heap.size) (o : Obj) : RSt B w (wr.alloc o) r i := ⟨(alloc_old o (lt_of_blk h.blk)).trans h.blk, h.bel.alloc (Nat.le_trans hB h.bel.size) o, h.len⟩
theorem RSt.set (h : RSt B w wr r i) (hB : B ≤ w.heap.size) (a : Nat) (b : Bool) : RSt B w (wr.setCell ⟨B, a, none⟩ (.bool b)) (r.set a b) i :=
  ⟨by rw [← boolRow_set]; exact set_blk h.blk a _, h.bel.trans (below_set (Nat.le_trans hB h.bel.size) (Nat.le_refl _) _), by rw [List.length_set]; exact h.len⟩
theorem RSt.cell (h : RSt B w wr r i) (k : Nat) (hk : k < i + 1) : wr.cell? ⟨B, k, none⟩ = some (.bool (r.getD k false)) ∧ wr.frozen? ⟨B, k, none⟩ = false :=
  ⟨(cell_of_blk h.blk k).trans (boolRow_get r k (by rw [h.len]; exact hk)), frozen_of_blk h.blk k⟩
theorem RSt.lt (h : RSt B w wr r i) : B < wr.heap.size := lt_of_blk h.blk
end

set_option maxRecDepth 100000 in
set_option maxHeartbeats 8000000 in
theorem reach_in (tb mb : Nat) (sv : Value) (ns : List Nd) (i : Nat) (w : World) (h : Tab w tb mb sv ns) (hG : Good ns) (hi : i < ns.length) :
    Calls Try.prog 40 #[.pointer (some ⟨tb, 0, none⟩), .int .i64 (i : Int)] w fun e w' => ∃ v, e = .returned v ∧ w'.ownsRow w.heap.size 3 1 v (reachL (needN ns i) (i + 1)).length (natL (reachL (needN ns i) (i + 1))) ∧ Below w.heap.size w w' := by
  obtain ⟨i0, hinf, hz0, hz1, hz2⟩ := info_parts info_bool
  obtain ⟨j0, hjnf, hy0, hy1, hy2⟩ := info_parts info_int
  have L := len_old tb mb sv ns w h
  have h2 := hG.most
  have hi0 : ¬ (i : Int) < 0 := by omega
  have hi1 : ¬ (ns.length : Int) ≤ i := by omega
  generalize hfin : needN ns i = fin
  have hfl : fin.length = i + 1 := by rw [← hfin, needN_length]
  have H := Lib.hid h
  have HG := Lib.hid hG
  have HF := Lib.hid hfin
  clear h hG hfin
  go_enter Try.func40, Try.ntmps40
  go_wp2_with (first | (go_at_call 20; refine L.mono ?_; rintro e w' ⟨rfl, hw⟩; obtain rfl := hw.symm) | (at_make; refine make1 w.heap.size w w rfl _ _ 37 rfl 4 i0 (.bool false) 1 Try.underlying37 hinf hz0 hz1 hz2 rfl (by decide) .i64 .i64 ((i : Int) + 1) ((i : Int) + 1) (i + 1) rfl rfl (by omega) (by omega) (by omega) _ rfl (Nat.le_refl _) (Below.refl _ _) ?_))
  intro w2 hown2 hb2 _
  have hblk := full_blk hown2
  rw [boolRow_zero] at hblk
  have s2 : RSt w.heap.size w w2 (List.replicate (i + 1) false) i := ⟨hblk, hb2, by simp⟩
  have s3 := s2.set (Nat.le_refl _) i true
  obtain ⟨z0, z1⟩ := s2.cell i (by omega)
  have hw2 : w.heap.size < w2.heap.size := s2.lt
  have hi2 : (i : Int) < (i : Int) + 1 := by omega
  have S3 := Lib.hid s3
  clear hown2 hb2 hblk L hw s2 s3
  go_wp2_with fail
  go_loopw [6] (fun x wr => ∃ (k : Nat) (r : List Bool), k ≤ i + 1 ∧ x = .int .i64 ((k : Int) - 1) ∧ RSt w.heap.size w wr r i ∧ downNeed ns k r = fin) (fun x _ => (intOf x + 1).toNat)
  case atStart => exact ⟨i + 1, _, Nat.le_refl _, by simp, S3.out, HF.out⟩
  case round =>
    obtain ⟨k, r, hk, rfl, hst, hd⟩ := hrel
    by_cases hk0 : 0 < k
    · obtain ⟨m, rfl⟩ : ∃ m, k = m + 1 := ⟨k - 1, by omega⟩
      have em : ((m + 1 : Nat) : Int) - 1 = m := by omega
      rw [em]
      clear em hk0
      simp only [downNeed] at hd
      have htk := H.out.below hst.bel
      have hpt := HG.out.lt m (by omega)
      have hpr := HG.out.pr m (by omega)
      obtain ⟨c0, c1⟩ := htk.cells
      obtain ⟨g, cg, rfl, hg, hrd⟩ := htk.rd
      obtain ⟨x0, x1, x2⟩ := hrd.nd3e m (by omega)
      simp only [Nat.zero_add] at x0 x1 x2
      obtain ⟨z0, z1⟩ := hst.cell m (by omega)
      have hs1 := hst.lt
      have hml : m < ns.length := by omega
      have hmi : m < i + 1 := by omega
      have hmi' : (m : Int) < (i : Int) + 1 := by omega
      have HST := Lib.hid hst
      clear c1 hrd htk hst S3
      unfold stepNeed at hd
      generalize nd ns m = X at *
      obtain ⟨xk, xa, xb⟩ := X
      simp only at x0 x1 x2 hpt hd hpr
      obtain ⟨_, p4, p5⟩ := hpt
      generalize hy : r.getD m false = y at *
      cases y with
      | false =>
        rw [if_neg (by simp)] at hd
        have HD := Lib.hid hd
        clear hd p4 p5 hy hpr
        go_wp2_with fail
        go_roundw
        case rel => exact ⟨m, _, by omega, by go_num, HST.out.alloc (Nat.le_refl _) _, HD.out⟩
        case measure => simp [intOf] <;> omega
      | true =>
        by_cases h4 : 4 ≤ xk
        · rw [if_pos ⟨rfl, h4⟩] at hd
          by_cases k4 : xk = 4
          · subst k4
            rw [if_pos rfl] at hd
            obtain ⟨ha, hak⟩ := p4 rfl
            obtain ⟨a, rfl⟩ : ∃ a : Nat, xa = a := ⟨xa.toNat, by omega⟩
            rw [Int.toNat_natCast] at hd
            obtain ⟨za, zf⟩ := HST.out.cell a (by omega)
            have HD := Lib.hid hd
            have hai : (a : Int) < (i : Int) + 1 := by omega
            clear hd p4 p5 hy hpr ha
            go_wp2_with fail
            go_roundw
            case rel => exact ⟨m, _, by omega, by go_num, (HST.out.set (Nat.le_refl _) a true).alloc (Nat.le_refl _) _, HD.out⟩
            case measure => simp [intOf] <;> omega
          · rw [if_neg k4] at hd
            obtain ⟨ha, hab, hbm⟩ := hpr h4 k4
            obtain ⟨a, rfl⟩ : ∃ a : Nat, xa = a := ⟨xa.toNat, by omega⟩
            obtain ⟨b, rfl⟩ : ∃ b : Nat, xb = b := ⟨xb.toNat, by omega⟩
            rw [Int.toNat_natCast, Int.toNat_natCast] at hd
            obtain ⟨za, zf⟩ := HST.out.cell a (by omega)
            obtain ⟨zb, zg⟩ := HST.out.cell b (by omega)
            have HD := Lib.hid hd
            have hai : (a : Int) < (i : Int) + 1 := by omega
            have hbi : (b : Int) < (i : Int) + 1 := by omega
            have hne : ¬ a = b := by omega
            have hne' : ¬ b = a := by omega
            clear hd p4 p5 hy hpr ha
            go_wp2_with fail
            go_roundw
            case rel => exact ⟨m, _, by omega, by go_num, ((HST.out.set (Nat.le_refl _) a true).set (Nat.le_refl _) b true).alloc (Nat.le_refl _) _, HD.out⟩
            case measure => simp [intOf] <;> omega
        · rw [if_neg (by simp [h4])] at hd
          have HD := Lib.hid hd
          clear hd p4 p5 hy hpr
          go_wp2_with fail
          go_roundw
          case rel => exact ⟨m, _, by omega, by go_num, HST.out.alloc (Nat.le_refl _) _, HD.out⟩
          case measure => simp [intOf] <;> omega
    · obtain rfl : k = 0 := by omega
      have e0 : ((0 : Nat) : Int) - 1 = -1 := rfl
      rw [e0]
      clear e0
      simp only [downNeed] at hd
      subst hd
      have HST := Lib.hid hst
      have hs1 := hst.lt
      clear hst S3
      go_wp2_with fail
      go_loopw [8, 59] (fun o x wr2 => ∃ (k : Nat) (v : Value), k ≤ i + 1 ∧ x = .int .i64 k ∧ v = o ∧ wr2.ownsRow w.heap.size 3 1 v (reachL r k).length (natL (reachL r k)) ∧ RSt w.heap.size w wr2 r i) (fun _ x _ => i + 1 - (intOf x).toNat)
      case atStart => exact ⟨0, _, Nat.zero_le _, rfl, rfl, World.ownsRow_nil _ _ _ _, HST.out⟩
      case round =>
        obtain ⟨k, v, hk, rfl, rfl, hown, hst⟩ := hrel
        by_cases hlt : k < i + 1
        · obtain ⟨z0, z1⟩ := hst.cell k hlt
          have hs2 := hst.lt
          have hlt' : (k : Int) < (i : Int) + 1 := by omega
          have hrl := reachL_length r k
          have hy1 := fun h => reachL_yes (r := r) (m := k) h
          have hy0 := fun h => reachL_no (r := r) (m := k) h
          have HS2 := Lib.hid hst
          have HO := Lib.hid hown
          have HY1 := Lib.hid hy1
          have HY0 := Lib.hid hy0
          clear hst hown hy1 hy0
          generalize hq : r.getD k false = y at *
          cases y with
          | false =>
            have HQ := Lib.hid (HY0.out rfl)
            clear hq
            go_wp2_with fail
            go_roundw
            case rel => exact ⟨k + 1, _, by omega, by go_num, rfl, by rw [HQ.out]; exact HO.out, HS2.out⟩
            case measure => simp [intOf]; omega
          | true =>
            have HQ := Lib.hid (HY1.out rfl)
            clear hq
            go_wp2_with (at_builtin; refine app1 w.heap.size w wr (.int .i64 (k : Int)) 3 rfl _ _ 24 rfl j0 (.int .i64 0) 8 Try.underlying24 hjnf hy0 hy1 hy2 rfl (by decide) _ (reachL r k).length _ rfl (Nat.le_refl _) HO.out HS2.out.bel rfl rfl (by omega) ?_)
            intro v4 w4 hown4 hb4 hg4
            have hst4 : RSt w.heap.size w w4 r i := ⟨(hg4.block _ HS2.out.lt (fun e => own_type HO.out HS2.out.blk (by decide) e.symm)).trans HS2.out.blk, hb4, HS2.out.len⟩
            go_wp2_with fail
            go_roundw
            case rel => exact ⟨k + 1, _, by omega, by go_num, rfl, by rw [HQ.out]; simpa [natL] using hown4, hst4⟩
            case measure => simp [intOf]; omega
        · obtain rfl : k = i + 1 := by omega
          go_wp2_with fail
          go_ret
          exact ⟨_, rfl, hown, hst.bel⟩
end Go.Proofs.Ytdpnififbpoagaa
