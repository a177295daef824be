/- Contracts of package atom: Check, says, Holds. -/
import Derived.Test.YtlbbbafehhdpnaaGreatDoorLinEval
namespace Go.Proofs.YtlbbbafehhdpnaaGreatDoor
open Go.RowKit
set_option linter.unusedVariables false
set_option linter.unusedSimpArgs false

theorem box5 {w : World} {g : Nat} {a b c d e : Value} {t : TypeId} (h : w.heap[g]? = some (.cells #[a, b, c, d, e] t (0, 0))) : w.cell? ⟨g, 0, none⟩ = some a ∧ w.cell? ⟨g, 1, none⟩ = some b ∧ w.cell? ⟨g, 2, none⟩ = some c ∧ w.cell? ⟨g, 3, none⟩ = some d ∧ w.cell? ⟨g, 4, none⟩ = some e :=
  ⟨cell_of_blk h 0, cell_of_blk h 1, cell_of_blk h 2, cell_of_blk h 3, cell_of_blk h 4⟩
set_option maxRecDepth 100000 in
theorem check_any (A : Option Addr) (n c : Nat) (b : RB) (s : Bool) (op : Int) (w : World) (h1 : 1 ≤ op) (h3 : op ≤ 3) :
    Calls Tryz.prog 21 #[.agg #[.slice A n c, .bool s, .slice b.A b.n b.c, .slice b.A2 b.n2 b.c2, .int .i64 op]] w fun r w' => r = .returned (.int .i64 0) ∧ Below w.heap.size w w' := by
  have hb := (Below.refl w.heap.size w).alloc (Nat.le_refl _) (.cells #[.slice A n c, .bool s, .slice b.A b.n b.c, .slice b.A2 b.n2 b.c2, .int .i64 op] 41)
  have HB := Lib.hid hb
  have q1 : ¬ (op < 1) := by omega
  have q2 : ¬ (3 < op) := by omega
  clear hb
  go_enter Tryz.func21, Tryz.ntmps21
  go_wp2_with fail
  go_ret
  exact ⟨rfl, HB.out⟩
theorem signZ_neg (r : Rat) : decide (signZ r < 0) = decide (r < 0) := by
  unfold signZ
  have := sign_neg r
  by_cases h0 : r.num.natAbs = 0
  · rw [if_pos h0]
    have : r = 0 := (num_zero r).1 h0
    subst this
    decide
  · rw [if_neg h0]
    cases hn : ratNeg r
    · rw [hn] at this
      rw [← this]
      simp
    · rw [hn] at this
      rw [← this]
      simp
set_option maxRecDepth 100000 in
theorem says_any (op : Int) (br : RB) (r : Rat) (w : World) (hr : RatAt w br r) (h1 : 1 ≤ op) (h3 : op ≤ 3) :
    Calls Tryz.prog 22 #[.int .i64 op, .agg #[.bool (ratNeg r), .slice br.A br.n br.c, .slice br.A2 br.n2 br.c2]] w fun e w' => e = .returned (.bool (saysQ op r)) ∧ Below w.heap.size w w' := by
  have hbw := (Below.refl w.heap.size w).alloc (Nat.le_refl _) (.cells #[.bool (ratNeg r), .slice br.A br.n br.c, .slice br.A2 br.n2 br.c2] 33)
  have hsg := sign_any br r _ (hr.below hbw)
  unfold RB.val at hsg
  have hz0 := signZ_zero r
  have hz1 := signZ_neg r
  obtain ⟨z, hz⟩ : ∃ z, z = signZ r := ⟨_, rfl⟩
  rw [← hz] at hsg hz0 hz1
  have hsay : saysQ op r = ((z == 0 && op != 2) || (decide (z < 0) && op != 3)) := by
    rw [hz0, hz1]
    unfold saysQ
    rw [Bool.eq_iff_iff]
    simp
  rw [hsay]
  obtain ⟨s, hs⟩ : ∃ s, s = ratNeg r := ⟨_, rfl⟩
  rw [← hs] at hsg hbw ⊢
  have HSG := Lib.hid hsg
  have HBW := Lib.hid hbw
  clear hsg hbw hz0 hz1 hz hsay hs hr
  by_cases z0 : z = 0
  · subst z0
    by_cases o2 : op = 2
    · subst o2
      rw [show (((0 : Int) == 0 && (2 : Int) != 2) || (decide ((0 : Int) < 0) && (2 : Int) != 3)) = false by decide]
      go_enter Tryz.func22, Tryz.ntmps22
      go_wp2_with (go_at_call 36; refine HSG.out.mono ?_; rintro e w2 ⟨rfl, hb2⟩)
      go_ret
      exact ⟨rfl, HBW.out.trans (hb2.mono (by simp))⟩
    · have o2' : (op != 2) = true := by rw [bne_iff_ne]; exact o2
      rw [show (((0 : Int) == 0 && op != 2) || (decide ((0 : Int) < 0) && op != 3)) = true by rw [o2']; rfl]
      clear o2
      go_enter Tryz.func22, Tryz.ntmps22
      go_wp2_with (go_at_call 36; refine HSG.out.mono ?_; rintro e w2 ⟨rfl, hb2⟩)
      go_ret
      exact ⟨rfl, HBW.out.trans (hb2.mono (by simp))⟩
  · have z1 : (z == 0) = false := by rw [beq_eq_false_iff_ne]; exact z0
    by_cases zn : z < 0
    · by_cases o3 : op = 3
      · subst o3
        rw [show ((z == 0 && (3 : Int) != 2) || (decide (z < 0) && (3 : Int) != 3)) = false by rw [z1, decide_eq_true zn]; rfl]
        clear z0
        go_enter Tryz.func22, Tryz.ntmps22
        go_wp2_with (go_at_call 36; refine HSG.out.mono ?_; rintro e w2 ⟨rfl, hb2⟩)
        go_ret
        exact ⟨rfl, HBW.out.trans (hb2.mono (by simp))⟩
      · have o3' : (op != 3) = true := by rw [bne_iff_ne]; exact o3
        rw [show ((z == 0 && op != 2) || (decide (z < 0) && op != 3)) = true by rw [z1, decide_eq_true zn, o3']; rfl]
        clear z0 o3
        go_enter Tryz.func22, Tryz.ntmps22
        go_wp2_with (go_at_call 36; refine HSG.out.mono ?_; rintro e w2 ⟨rfl, hb2⟩)
        go_ret
        exact ⟨rfl, HBW.out.trans (hb2.mono (by simp))⟩
    · rw [show ((z == 0 && op != 2) || (decide (z < 0) && op != 3)) = false by rw [z1, decide_eq_false zn]; rfl]
      clear z0
      go_enter Tryz.func22, Tryz.ntmps22
      go_wp2_with (go_at_call 36; refine HSG.out.mono ?_; rintro e w2 ⟨rfl, hb2⟩)
      go_ret
      exact ⟨rfl, HBW.out.trans (hb2.mono (by simp))⟩
end Go.Proofs.YtlbbbafehhdpnaaGreatDoor

namespace Go.Proofs.YtlbbbafehhdpnaaGreatDoor
open Go.RowKit
set_option linter.unusedVariables false
set_option linter.unusedSimpArgs false

set_option maxRecDepth 100000 in
set_option maxHeartbeats 4000000 in
theorem holds_any (A : Option Addr) (n c : Nat) (b : RB) (l : List TB) (q : Rat) (op : Int) (k : Nat) (A2 : Option Addr) (n2 c2 : Nat) (ps : List (RB × Rat)) (kp : Nat) (w : World) (h : TmsAt w A n c l k) (hr : RatAt w b q) (hq : RatLe q k) (hp : PtsAt w A2 n2 c2 ps kp) (hn : n ≤ 30) (hk : k + kp ≤ 30000) (h1 : 1 ≤ op) (h3 : op ≤ 3) :
    Calls Tryz.prog 11 #[.agg #[.slice A n c, .bool (ratNeg q), .slice b.A b.n b.c, .slice b.A2 b.n2 b.c2, .int .i64 op], .slice A2 n2 c2] w fun r w' => r = .returned (.tuple #[.bool (saysQ op (evE (ptOf ps) l q)), .int .i64 0]) ∧ Below w.heap.size w w' := by
  obtain ⟨s, hs⟩ : ∃ s, s = ratNeg q := ⟨_, rfl⟩
  have hev := fun W (hb : Below w.heap.size w W) => eval_any A n c b l q k A2 n2 c2 ps kp W (h.below hb) (hr.below hb) hq (hp.below hb) hn hk
  rw [← hs] at hev ⊢
  have hsy := fun W br (hr : RatAt W br (evE (ptOf ps) l q)) => says_any op br (evE (ptOf ps) l q) W hr h1 h3
  have hck := fun W => check_any A n c b s op W h1 h3
  generalize evE (ptOf ps) l q = v at *
  obtain ⟨sy, hsy0⟩ : ∃ sy, sy = saysQ op v := ⟨_, rfl⟩
  rw [← hsy0] at hsy ⊢
  have HEV := Lib.hid hev
  have HSY := Lib.hid hsy
  have HCK := Lib.hid hck
  clear hev hsy hck hs hsy0 h hr hq hp
  go_enter Tryz.func11, Tryz.ntmps11
  go_upto_region 1 with fail
  have hx1 := heap_alloc_new w (.cells #[.slice A n c, .bool s, .slice b.A b.n b.c, .slice b.A2 b.n2 b.c2, .int .i64 op] 41)
  have zw1 : (w.alloc (.cells #[.slice A n c, .bool s, .slice b.A b.n b.c, .slice b.A2 b.n2 b.c2, .int .i64 op] 41)).heap.size = w.heap.size + 1 := by simp
  have aw1 := (Below.refl w.heap.size w).alloc (Nat.le_refl _) (.cells #[.slice A n c, .bool s, .slice b.A b.n b.c, .slice b.A2 b.n2 b.c2, .int .i64 op] 41)
  obtain ⟨w1, ew1⟩ : ∃ x, x = w.alloc (.cells #[.slice A n c, .bool s, .slice b.A b.n b.c, .slice b.A2 b.n2 b.c2, .int .i64 op] 41) := ⟨_, rfl⟩
  rw [← ew1] at hx1 zw1 aw1 ⊢
  clear ew1
  obtain ⟨x0, x1, x2, x3, x4⟩ := box5 hx1
  have HX1 := Lib.hid hx1
  have HA1 := Lib.hid aw1
  clear hx1 aw1 zw1
  have hcall := HCK.out w1
  go_upto_region 4 with (go_at_call 21; refine hcall.mono ?_; clear hcall; rintro e w2 ⟨rfl, hb2⟩)
  have hcs : ∀ W', Below w2.heap.size w2 W' → W'.cell? ⟨w.heap.size, 0, none⟩ = some (.slice A n c) ∧ W'.cell? ⟨w.heap.size, 1, none⟩ = some (.bool s) ∧ W'.cell? ⟨w.heap.size, 2, none⟩ = some (.slice b.A b.n b.c) ∧ W'.cell? ⟨w.heap.size, 3, none⟩ = some (.slice b.A2 b.n2 b.c2) ∧ W'.cell? ⟨w.heap.size, 4, none⟩ = some (.int .i64 op) := fun W' hb => box5 (box_keep (box_keep HX1.out hb2) hb)
  have HCS := Lib.hid hcs
  have HB2 := Lib.hid (HA1.out.trans (hb2.mono HA1.out.size))
  clear hcs hb2 x0 x1 x2 x3 x4 HX1 HA1
  go_region_held3 (fun W' => W'.cell? ⟨w.heap.size, 0, none⟩ = some (.slice A n c) ∧ W'.cell? ⟨w.heap.size, 1, none⟩ = some (.bool s) ∧ W'.cell? ⟨w.heap.size, 2, none⟩ = some (.slice b.A b.n b.c) ∧ W'.cell? ⟨w.heap.size, 3, none⟩ = some (.slice b.A2 b.n2 b.c2) ∧ W'.cell? ⟨w.heap.size, 4, none⟩ = some (.int .i64 op)) ((refine HCS.out _ ?_; first | with_reducible exact k2 | with_reducible exact k1 | with_reducible exact below_drew2 (Below.refl _ _))) (first | (go_at_call 23; refine (HEV.out _ (below_drew2 HB2.out)).mono ?_; rintro e u1 ⟨b1, rfl, hr1, _, hb1⟩; have k1 : Below w2.heap.size w2 u1 := (below_drew2 (Below.refl _ _)).trans (hb1.mono (Nat.le_refl _)); have HR1 := Lib.hid hr1; clear hr1 hb1) | (go_at_call 22; refine (HSY.out _ _ HR1.out).mono ?_; rintro e u2 ⟨rfl, hb2⟩; have k2 : Below w2.heap.size w2 u2 := k1.trans (hb2.mono k1.size); clear hb2))
  all_goals
    go_wp2_with fail
    go_ret2
    exact ⟨rfl, HB2.out.trans (k2.mono HB2.out.size)⟩
end Go.Proofs.YtlbbbafehhdpnaaGreatDoor
