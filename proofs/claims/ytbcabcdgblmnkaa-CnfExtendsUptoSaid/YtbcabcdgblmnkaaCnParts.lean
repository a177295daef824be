/- Contract of package cnf: parts. -/
import Derived.Test.YtbcabcdgblmnkaaNeedMath
import Derived.Test.YtbcabcdgblmnkaaNodeEvR
import Derived.Test.YtbcabcdgblmnkaaNodeRd
import Derived.BigQuiet
import Derived.Deep.DeepCutAuto
namespace Go.Proofs.Ytbcabcdgblmnkaa
open Go.RowKit
set_option linter.unusedVariables false
set_option linter.unusedSimpArgs false

theorem boolRow_get (r : List Bool) (k : Nat) (h : k < r.length) : (boolL r).toArray[k]? = some (.bool (r.getD k false)) := by
  simp only [List.getElem?_toArray, boolL, List.getElem?_map, List.getElem?_eq_getElem h, List.getD_eq_getElem?_getD]
  rfl
theorem boolRow_set (r : List Bool) (k : Nat) (b : Bool) : (boolL r).toArray.setIfInBounds k (.bool b) = (boolL (r.set k b)).toArray := by
  simp [boolL]
theorem boolRow_zero (n : Nat) : List.replicate n (Value.bool false) = boolL (List.replicate n false) := by simp [boolL]
theorem cbelow_set {B : Nat} {w : World} {p : Addr} (h : B ≤ w.heap.size) (hp : B ≤ p.block) (u : Value) : Below B w (w.setCell p u) :=
  ⟨rfl, rfl, rfl, by simp [World.setCell], fun k hk => by
    have : k ≠ p.block := by omega
    exact set_far this u⟩
theorem cset_same (r : List Bool) (a : Nat) (z : Bool) (h : r.getD a false = z) (ha : a < r.length) : r.set a z = r := by
  apply List.ext_getElem?
  intro i
  by_cases hi : i = a
  · subst hi
    rw [List.getElem?_set_self ha, ← h, List.getD_eq_getElem?_getD, List.getElem?_eq_getElem ha]
    rfl
  · rw [List.getElem?_set_ne (by omega)]
theorem cblk_row {w : World} {B n : Nat} {xs : List Value} {E : TypeId} (h : w.heap[B]? = some (.cells xs.toArray E (0, 0))) : True := trivial
theorem cnew_at (W : World) (o : Obj) (s : Nat) (h : W.heap.size = s) : (W.alloc o).heap[s]? = some o := h ▸ heap_alloc_new W o
def natI (xs : List Nat) : List Int := xs.map fun (k : Nat) => (k : Int)
theorem natI_length (xs : List Nat) : (natI xs).length = xs.length := by simp [natI]
/-- the row of what is needed. -/
structure NRow (B : Nat) (w wr : World) (r : List Bool) (L : Nat) : Prop where
  blk : wr.heap[B]? = some (.cells (boolL r).toArray 4 (0, 0))
  bel : Below B w wr
  len : r.length = L
section
variable {B L : Nat} {w wr : World} {r : List Bool}
theorem NRow.alloc (h : NRow B w wr r L) (hB : B ≤ w.heap.size) (o : Obj) : NRow B w (wr.alloc o) r L := ⟨(alloc_old o (lt_of_blk h.blk)).trans h.blk, h.bel.alloc (Nat.le_trans hB h.bel.size) o, h.len⟩
theorem NRow.set (h : NRow B w wr r L) (hB : B ≤ w.heap.size) (a : Nat) (b : Bool) : NRow B w (wr.setCell ⟨B, a, none⟩ (.bool b)) (r.set a b) L :=
  ⟨by rw [← boolRow_set]; exact set_blk h.blk a _, h.bel.trans (cbelow_set (Nat.le_trans hB h.bel.size) (Nat.le_refl _) _), by rw [List.length_set]; exact h.len⟩
theorem NRow.drew (h : NRow B w wr r L) : NRow B w wr.drew r L := ⟨h.blk, ⟨h.bel.os, h.bel.tape, h.bel.output, h.bel.size, h.bel.block⟩, h.len⟩
theorem NRow.cell (h : NRow B w wr r L) (k : Nat) (hk : k < L) : wr.cell? ⟨B, k, none⟩ = some (.bool (r.getD k false)) ∧ wr.frozen? ⟨B, k, none⟩ = false :=
  ⟨(cell_of_blk h.blk k).trans (boolRow_get r k (by rw [h.len]; exact hk)), frozen_of_blk h.blk k⟩
theorem NRow.lt (h : NRow B w wr r L) : B < wr.heap.size := lt_of_blk h.blk
end
def upN (ns : List Nd) (r : List Bool) (m : Nat) : List Nat := (List.range m).filter fun k => r.getD k false && decide (5 ≤ (nd ns k).k)
theorem upN_yes {ns : List Nd} {r : List Bool} {m : Nat} (h : r.getD m false = true) (h5 : 5 ≤ (nd ns m).k) : upN ns r (m + 1) = upN ns r m ++ [m] := by
  rw [List.getD_eq_getElem?_getD] at h
  simp [upN, List.range_succ, h, h5]
theorem upN_no {ns : List Nd} {r : List Bool} {m : Nat} (h : (r.getD m false && decide (5 ≤ (nd ns m).k)) = false) : upN ns r (m + 1) = upN ns r m := by
  unfold upN
  rw [List.range_succ, List.filter_append]
  simp only [List.filter_cons, h]
  simp
theorem upN_length (ns : List Nd) (r : List Bool) (m : Nat) : (upN ns r m).length ≤ m := by
  have := List.length_filter_le (fun k => r.getD k false && decide (5 ≤ (nd ns k).k)) (List.range m)
  simpa [upN] using this

set_option maxRecDepth 100000 in
set_option maxHeartbeats 8000000 in
theorem parts_any (ns : List Nd) (root : Nat) (A : Option Addr) (c : Nat) (w : World) (hG : Good ns) (hr : root < ns.length) (hrd : Rd w 3 A ns.length (ndCells ns)) :
    Calls Try.prog 52 #[.slice A ns.length c, .int .i64 (root : Int)] w fun e w' => ∃ v, e = .returned v ∧ OwnI w' w.heap.size v (natI (partsN ns root)) ∧ Below w.heap.size w w' := by
  obtain ⟨i0, hinf, hz0, hz1, hz2⟩ := info_parts info_bool
  obtain ⟨j0, hjnf, hy0, hy1, hy2⟩ := info_parts info_int
  have h2 := hG.most
  have hpn : partsN ns root = upN ns (needAll ns root) ns.length := rfl
  rw [hpn]
  have hfl : (needAll ns root).length = ns.length := needAll_length
  generalize hfin : needAll ns root = fin at *
  have HG := Lib.hid hG
  have HF := Lib.hid hfin
  have HRD := Lib.hid hrd
  clear hG hfin hrd hpn
  go_enter Try.func52, Try.ntmps52
  go_wp2_with (at_make; refine make1 w.heap.size w w rfl _ _ 23 rfl 4 i0 (.bool false) 1 Try.underlying23 hinf hz0 hz1 hz2 rfl (by decide) .i64 .i64 (ns.length : Int) (ns.length : Int) ns.length rfl rfl (by omega) (by omega) (by omega) _ rfl (Nat.le_refl _) (Below.refl _ _) ?_)
  intro w2 hown2 hb2 _
  have hblk := full_blk hown2
  rw [boolRow_zero] at hblk
  have s2 : NRow w.heap.size w w2 (List.replicate ns.length false) ns.length := ⟨hblk, hb2, by simp⟩
  have s3 := s2.set (Nat.le_refl _) root true
  obtain ⟨z0, z1⟩ := s2.cell root (by omega)
  have hw2 : w.heap.size < w2.heap.size := s2.lt
  have hi2 : (root : Int) < (ns.length : Int) := by omega
  have S3 := Lib.hid s3
  clear hown2 hb2 hblk s2 s3
  go_wp2_with fail
  go_loopw [6] (fun x wr => ∃ (k : Nat) (r : List Bool), k ≤ root + 1 ∧ x = .int .i64 ((k : Int) - 1) ∧ NRow w.heap.size w wr r ns.length ∧ downNeed ns k r = fin) (fun x _ => (intOf x + 1).toNat)
  case atStart => exact ⟨root + 1, _, Nat.le_refl _, by simp, S3.out, HF.out⟩
  case round =>
    obtain ⟨k, r, hk, rfl, hst, hd⟩ := hrel
    by_cases hk0 : 0 < k
    · obtain ⟨m, rfl⟩ : ∃ m, k = m + 1 := ⟨k - 1, by omega⟩
      have em : ((m + 1 : Nat) : Int) - 1 = m := by omega
      rw [em]
      clear em hk0
      simp only [downNeed] at hd
      have hkid := good_kids HG.out (i := m) (by omega)
      obtain ⟨g, off, rfl, x0, x1, x2, hg⟩ := (HRD.out.below hst.bel).nd3 m (by omega) rfl
      obtain ⟨z0, z1⟩ := hst.cell m (by omega)
      have hs1 := hst.lt
      have hml : m < ns.length := by omega
      have hmi' : (m : Int) < (ns.length : Int) := by omega
      have HST := Lib.hid hst
      clear hst S3
      unfold stepNeed at hd
      generalize nd ns m = X at *
      obtain ⟨xk, xa, xb⟩ := X
      simp only at x0 x1 x2 hkid hd
      generalize hy : r.getD m false = y at *
      cases y with
      | false =>
        rw [if_neg (by simp)] at hd
        have HD := Lib.hid hd
        clear hd hy hkid
        go_wp2_with fail
        go_roundw
        case rel => exact ⟨m, _, by omega, by go_num, HST.out.alloc (Nat.le_refl _) _, HD.out⟩
        case measure => simp [intOf] <;> omega
      | true =>
        by_cases h4 : 4 ≤ xk
        · rw [if_pos ⟨rfl, h4⟩] at hd
          obtain ⟨p1, p2, p3, p4, p5⟩ := hkid h4
          obtain ⟨a, rfl⟩ : ∃ a : Nat, xa = a := ⟨xa.toNat, by omega⟩
          rw [Int.toNat_natCast] at hd p2 p3
          by_cases k4 : xk = 4
          · subst k4
            rw [if_pos rfl] at hd
            obtain ⟨hb0, _⟩ := p5 rfl
            subst hb0
            obtain ⟨za, zf⟩ := HST.out.cell a (by omega)
            have HD := Lib.hid hd
            have hai : (a : Int) < (ns.length : Int) := by omega
            clear hd p4 p5 hy hkid
            go_upto_region 9 with fail
            have hst1 := (HST.out.set (Nat.le_refl _) a true).alloc (Nat.le_refl _) (.cells #[.int .i64 4, .int .i64 (a : Int), .int .i64 0] 96)
            have hbx : ((wr.setCell ⟨w.heap.size, a, none⟩ (.bool true)).alloc (.cells #[.int .i64 4, .int .i64 (a : Int), .int .i64 0] 96)).heap[wr.heap.size]? = some (.cells #[.int .i64 4, .int .i64 (a : Int), .int .i64 0] 96 (0, 0)) := cnew_at _ _ _ (by simp [World.setCell])
            obtain ⟨W1, hW1⟩ : ∃ W, W = (wr.setCell ⟨w.heap.size, a, none⟩ (.bool true)).alloc (.cells #[.int .i64 4, .int .i64 (a : Int), .int .i64 0] 96) := ⟨_, rfl⟩
            rw [← hW1] at hst1 hbx ⊢
            obtain ⟨zb, zg⟩ := hst1.cell 0 (by omega)
            have hs2 := hst1.lt
            have hs3 := lt_of_blk hbx
            have x0 := cell_of_blk hbx 0
            have x2 := cell_of_blk hbx 2
            simp at x0 x2
            have HST1 := Lib.hid hst1
            clear hst1 hW1 hbx
            have hsame := fun z h => cset_same (r.set a true) 0 z h (by have := HST1.out.len; omega)
            generalize hz : (r.set a true).getD 0 false = z at *
            have hS := (HST1.out.set (Nat.le_refl _) 0 z).drew
            rw [hsame z rfl] at hS
            have HS := Lib.hid hS
            clear hsame hz hS
            cases z
            · go_region
              go_wp2_with fail
              first | exact ⟨⟨m, _, by omega, rfl, HS.out, HD.out⟩, by simp [intOf] <;> omega⟩ | (go_roundw; case rel => exact ⟨m, _, by omega, by go_num, HS.out, HD.out⟩; case measure => simp [intOf] <;> omega)
            · go_region
              go_wp2_with fail
              first | exact ⟨⟨m, _, by omega, rfl, HS.out, HD.out⟩, by simp [intOf] <;> omega⟩ | (go_roundw; case rel => exact ⟨m, _, by omega, by go_num, HS.out, HD.out⟩; case measure => simp [intOf] <;> omega)
          · rw [if_neg k4] at hd
            obtain ⟨_, p6, p7⟩ := p4 k4
            obtain ⟨b, rfl⟩ : ∃ b : Nat, xb = b := ⟨xb.toNat, by omega⟩
            rw [Int.toNat_natCast] at hd p6 p7
            obtain ⟨za, zf⟩ := HST.out.cell a (by omega)
            have HD := Lib.hid hd
            have hai : (a : Int) < (ns.length : Int) := by omega
            have hbi : (b : Int) < (ns.length : Int) := by omega
            have h5 : (xk != 4) = true := by simpa using k4
            clear hd p4 p5 hy hkid
            go_upto_region 9 with fail
            have hst1 := (HST.out.set (Nat.le_refl _) a true).alloc (Nat.le_refl _) (.cells #[.int .i64 xk, .int .i64 (a : Int), .int .i64 (b : Int)] 96)
            have hbx : ((wr.setCell ⟨w.heap.size, a, none⟩ (.bool true)).alloc (.cells #[.int .i64 xk, .int .i64 (a : Int), .int .i64 (b : Int)] 96)).heap[wr.heap.size]? = some (.cells #[.int .i64 xk, .int .i64 (a : Int), .int .i64 (b : Int)] 96 (0, 0)) := cnew_at _ _ _ (by simp [World.setCell])
            obtain ⟨W1, hW1⟩ : ∃ W, W = (wr.setCell ⟨w.heap.size, a, none⟩ (.bool true)).alloc (.cells #[.int .i64 xk, .int .i64 (a : Int), .int .i64 (b : Int)] 96) := ⟨_, rfl⟩
            rw [← hW1] at hst1 hbx ⊢
            obtain ⟨zb, zg⟩ := hst1.cell b (by omega)
            have hs2 := hst1.lt
            have hs3 := lt_of_blk hbx
            have x0 := cell_of_blk hbx 0
            have x2 := cell_of_blk hbx 2
            simp at x0 x2
            have HST1 := Lib.hid hst1
            clear hst1 hW1 hbx
            have hS := (HST1.out.set (Nat.le_refl _) b true).drew
            have HS := Lib.hid hS
            clear hS
            generalize (r.set a true).getD b false = z at *
            cases z
            · go_region
              go_wp2_with fail
              first | exact ⟨⟨m, _, by omega, rfl, HS.out, HD.out⟩, by simp [intOf] <;> omega⟩ | (go_roundw; case rel => exact ⟨m, _, by omega, by go_num, HS.out, HD.out⟩; case measure => simp [intOf] <;> omega)
            · go_region
              go_wp2_with fail
              first | exact ⟨⟨m, _, by omega, rfl, HS.out, HD.out⟩, by simp [intOf] <;> omega⟩ | (go_roundw; case rel => exact ⟨m, _, by omega, by go_num, HS.out, HD.out⟩; case measure => simp [intOf] <;> omega)
        · rw [if_neg (by simp [h4])] at hd
          have HD := Lib.hid hd
          clear hd hy hkid
          go_wp2_with fail
          go_roundw
          case rel => exact ⟨m, _, by omega, by go_num, HST.out.alloc (Nat.le_refl _) _, HD.out⟩
          case measure => simp [intOf] <;> omega
    · obtain rfl : k = 0 := by omega
      have e0 : ((0 : Nat) : Int) - 1 = -1 := rfl
      rw [e0]
      clear e0
      simp only [downNeed] at hd
      subst hd
      have HST := Lib.hid hst
      have hs1 := hst.lt
      clear hst S3
      go_wp2_with fail
      go_loopw [8, 55] (fun o x wr2 => ∃ (k : Nat) (v : Value), k ≤ ns.length ∧ x = .int .i64 k ∧ v = o ∧ OwnI wr2 w.heap.size v (natI (upN ns r k)) ∧ NRow w.heap.size w wr2 r ns.length) (fun _ x _ => ns.length - (intOf x).toNat)
      case atStart => exact ⟨0, _, Nat.zero_le _, rfl, rfl, OwnI.nil _ _, HST.out⟩
      case round =>
        obtain ⟨k, v, hk, rfl, rfl, hown, hst⟩ := hrel
        by_cases hlt : k < ns.length
        · obtain ⟨g, off, rfl, x0, x1, x2, hg⟩ := (HRD.out.below hst.bel).nd3 k hlt rfl
          obtain ⟨z0, z1⟩ := hst.cell k hlt
          have hs2 := hst.lt
          have hlt' : (k : Int) < (ns.length : Int) := by omega
          have hrl := upN_length ns r k
          have hy1 := fun h h5 => upN_yes (ns := ns) (r := r) (m := k) h h5
          have hy0 := fun h => upN_no (ns := ns) (r := r) (m := k) h
          generalize nd ns k = X at *
          obtain ⟨xk, xa, xb⟩ := X
          simp only at x0 x1 x2 hy1 hy0
          have hst1 := hst.alloc (Nat.le_refl _) (.cells #[.int .i64 xk, .int .i64 xa, .int .i64 xb] 96)
          have how1 := hown.below ((Below.refl _ _).alloc (Nat.le_refl _) (.cells #[.int .i64 xk, .int .i64 xa, .int .i64 xb] 96))
          have HS2 := Lib.hid hst1
          have HO := Lib.hid how1
          have HY1 := Lib.hid hy1
          have HY0 := Lib.hid hy0
          clear hst hown hst1 how1 hy1 hy0
          generalize hq : r.getD k false = y at *
          cases y with
          | false =>
            have HQ := Lib.hid (HY0.out (by rw [Bool.false_and]))
            clear hq
            go_wp2_with fail
            go_roundw
            case rel => exact ⟨k + 1, _, by omega, by go_num, rfl, by rw [HQ.out]; exact HO.out, HS2.out⟩
            case measure => simp [intOf]; omega
          | true =>
            by_cases h5 : 5 ≤ xk
            · have HQ := Lib.hid (HY1.out rfl h5)
              clear hq
              have hlen8 : ((natI (upN ns r k)).length + 1) * 8 ≤ 140737488355328 := by rw [natI_length]; omega
              go_upto_region 15 with fail
              obtain ⟨W5, hW5⟩ : ∃ W, W = wr.alloc (.cells #[.int .i64 xk, .int .i64 xa, .int .i64 xb] 96) := ⟨_, rfl⟩
              rw [← hW5] at HO HS2 ⊢
              clear hW5
              go_wp2_with (at_builtin; refine app1 w.heap.size w W5 (.int .i64 (k : Int)) 3 rfl _ _ 22 rfl j0 (.int .i64 0) 8 Try.underlying22 hjnf hy0 hy1 hy2 rfl (by decide) _ (natI (upN ns r k)).length (ints (natI (upN ns r k))) rfl (Nat.le_refl _) HO.out HS2.out.bel rfl rfl hlen8 ?_)
              intro v4 w4 hown4 hb4 hg4
              have hst4 : NRow w.heap.size w w4 r ns.length := ⟨(hg4.block _ HS2.out.lt (fun e => own_type HO.out HS2.out.blk (by decide) e.symm)).trans HS2.out.blk, hb4, HS2.out.len⟩
              have how4 : OwnI w4 w.heap.size v4 (natI (upN ns r k) ++ [(k : Int)]) := OwnI.snoc hown4
              go_wp2_with fail
              go_roundw
              case rel => exact ⟨k + 1, _, by omega, by go_num, rfl, by rw [HQ.out]; simpa [natI] using how4, hst4⟩
              case measure => simp [intOf]; omega
            · have HQ := Lib.hid (HY0.out (by rw [decide_eq_false h5, Bool.and_false]))
              clear hq
              go_wp2_with fail
              go_roundw
              case rel => exact ⟨k + 1, _, by omega, by go_num, rfl, by rw [HQ.out]; exact HO.out, HS2.out⟩
              case measure => simp [intOf]; omega
        · obtain rfl : k = ns.length := by omega
          go_wp2_with fail
          go_ret
          exact ⟨_, rfl, hown, hst.bel⟩
end Go.Proofs.Ytbcabcdgblmnkaa
