/- Contracts of package intern: the table. -/
import Derived.Test.YtbcabcdgblmnkaaNodeMem
import Derived.Test.YtbcabcdgblmnkaaFrames
import Derived.Deep.RegionLaw
import Derived.StillTailTactics
namespace Go.Proofs.Ytbcabcdgblmnkaa
open Go.RowKit
set_option linter.unusedVariables false
set_option linter.unusedSimpArgs false

theorem info_node : (Try.prog.info? 96).map (fun i => (i.zero, i.size, i.bytes)) = some (some (.agg #[.int .i64 0, .int .i64 0, .int .i64 0]), 3, 24) := by kernel_rfl

/-- The table at block tb, its map at mb, its slice of nodes sv: it holds these nodes. -/
structure Tab (w : World) (tb mb : Nat) (sv : Value) (ns : List Nd) : Prop where
  blk : w.heap[tb]? = some (.cells #[sv, .map (some mb)] 137 (0, 0))
  own : w.ownsRow 0 96 3 sv ns.length (ndCells ns)
  map : ∃ ps, w.heap[mb]? = some (.map (ents ps 0).toArray ns.length) ∧ MapsTo ps ns
  two : 2 ≤ ns.length
  most : ns.length ≤ 20000
def TS (tb mb : Nat) (sv : Value) : Nat → Prop := fun b => b = tb ∨ b = mb ∨ sv.ownBlock = some b

theorem Tab.keep {w w' : World} {tb mb : Nat} {sv : Value} {ns : List Nd} {S : Nat → Prop} (h : Tab w tb mb sv ns) (hf : Fr S w w') (h1 : ¬ S tb) (h2 : ¬ S mb) (h3 : ∀ b, sv.ownBlock = some b → ¬ S b) : Tab w' tb mb sv ns :=
  let ⟨ps, hp, hm⟩ := h.map
  ⟨(hf.block tb (lt_of_blk h.blk) h1).trans h.blk, hf.own h.own h3, ⟨ps, (hf.block mb (lt_of_blk hp) h2).trans hp, hm⟩, h.two, h.most⟩
theorem Tab.below {w w' : World} {tb mb : Nat} {sv : Value} {ns : List Nd} (h : Tab w tb mb sv ns) (hf : Below w.heap.size w w') : Tab w' tb mb sv ns :=
  h.keep (Fr.of_below (S := fun _ => False) hf) (fun h => h) (fun h => h) (fun _ _ h => h)
theorem Tab.cells {w : World} {tb mb : Nat} {sv : Value} {ns : List Nd} (h : Tab w tb mb sv ns) : w.cell? ⟨tb, 0, none⟩ = some sv ∧ w.cell? ⟨tb, 1, none⟩ = some (.map (some mb)) :=
  ⟨(cell_of_blk h.blk 0).trans rfl, (cell_of_blk h.blk 1).trans rfl⟩
theorem Tab.form {w : World} {tb mb : Nat} {sv : Value} {ns : List Nd} (h : Tab w tb mb sv ns) : ∃ g c, sv = .slice (some ⟨g, 0, none⟩) ns.length c ∧ g < w.heap.size := by
  obtain ⟨g, c, e, _, hg, _⟩ := owned_form h.own (by have := h.two; omega)
  exact ⟨g, c, e, hg⟩
theorem Tab.node {w : World} {tb mb g c : Nat} {ns : List Nd} (h : Tab w tb mb (.slice (some ⟨g, 0, none⟩) ns.length c) ns) (i : Nat) (hi : i < ns.length) :
    w.cell? ⟨g, i * 3, none⟩ = some (.int .i64 ns[i].k) ∧ w.cell? ⟨g, i * 3 + 1, none⟩ = some (.int .i64 ns[i].a) ∧ w.cell? ⟨g, i * 3 + 2, none⟩ = some (.int .i64 ns[i].b) := by
  obtain ⟨h1, h2, h3⟩ := ndCells_get ns i hi
  exact ⟨(h.own.cellAt _ (by omega)).trans h1, (h.own.cellAt _ (by omega)).trans h2, (h.own.cellAt _ (by omega)).trans h3⟩
theorem look_drawn (mb : Nat) (ns : List Nd) (n : Nd) (w : World) (o : Obj) (hm : ∃ ps, w.heap[mb]? = some (.map (ents ps 0).toArray ns.length) ∧ MapsTo ps ns) :
    ∀ q, (Instr.lookup 135 (.map (some mb)) (.agg #[.int .i64 n.k, .int .i64 n.a, .int .i64 n.b]) true).run Try.prog ((w.alloc o).drewN q) = .ok (.tuple #[.int .i64 (((fidx ns n 0).getD 0 : Nat) : Int), .bool (fidx ns n 0).isSome]) ((w.alloc o).drewN q) :=
  let ⟨ps, hp, hm⟩ := hm
  fun q => run_look mb ps ns ns.length n ((w.alloc o).drewN q) ((alloc_old o (lt_of_blk hp)).trans hp) hm

theorem put_found (tb mb : Nat) (sv : Value) (ns : List Nd) (n : Nd) (i : Nat) (w : World) (h : Tab w tb mb sv ns) (hf : fidx ns n 0 = some i) :
    Calls Try.prog 97 #[.pointer (some ⟨tb, 0, none⟩), .agg #[.int .i64 n.k, .int .i64 n.a, .int .i64 n.b]] w fun e w' => e = .returned (.tuple #[.int .i64 i, .bool true]) ∧ Below w.heap.size w w' := by
  have hl := look_drawn mb ns n w (.cells #[.int .i64 n.k, .int .i64 n.a, .int .i64 n.b] 96) h.map
  rw [hf] at hl
  obtain ⟨hc0, hc1⟩ := h.cells
  have htb := lt_of_blk h.blk
  have hc1' := (World.cell?_alloc_lt w (.cells #[.int .i64 n.k, .int .i64 n.a, .int .i64 n.b] 96) ⟨tb, 1, none⟩ htb).trans hc1
  obtain ⟨nk, na, nb⟩ := n
  simp only [Option.getD_some, Option.isSome_some] at hl
  clear h hf hc0 hc1
  go_enter Try.func97, Try.ntmps97
  go_wp2_with fail
  go_quiet (fail)
  go_wp2_with fail
  go_ret2
  exact ⟨rfl, below_drewN ((Below.refl _ _).alloc (Nat.le_refl _) _) nq⟩

set_option maxRecDepth 100000 in
theorem put_full (tb mb : Nat) (sv : Value) (ns : List Nd) (n : Nd) (w : World) (h : Tab w tb mb sv ns) (hf : fidx ns n 0 = none) (hm : 20000 ≤ ns.length) :
    Calls Try.prog 97 #[.pointer (some ⟨tb, 0, none⟩), .agg #[.int .i64 n.k, .int .i64 n.a, .int .i64 n.b]] w fun e w' => e = .returned (.tuple #[.int .i64 0, .bool false]) ∧ Below w.heap.size w w' := by
  have hl := look_drawn mb ns n w (.cells #[.int .i64 n.k, .int .i64 n.a, .int .i64 n.b] 96) h.map
  rw [hf] at hl
  obtain ⟨hc0, hc1⟩ := h.cells
  have htb := lt_of_blk h.blk
  obtain ⟨g, c, rfl, hg⟩ := h.form
  have hc0' := (World.cell?_alloc_lt w (.cells #[.int .i64 n.k, .int .i64 n.a, .int .i64 n.b] 96) ⟨tb, 0, none⟩ htb).trans hc0
  have hc1' := (World.cell?_alloc_lt w (.cells #[.int .i64 n.k, .int .i64 n.a, .int .i64 n.b] 96) ⟨tb, 1, none⟩ htb).trans hc1
  have hmost := h.most
  obtain ⟨nk, na, nb⟩ := n
  simp only [Option.getD_none, Option.isSome_none] at hl
  clear h hf hc0 hc1
  go_enter Try.func97, Try.ntmps97
  go_wp2_with fail
  go_quiet (fail)
  go_wp2_with fail
  go_ret2
  exact ⟨rfl, below_drewN ((Below.refl _ _).alloc (Nat.le_refl _) _) nq⟩

set_option maxRecDepth 100000 in
set_option maxHeartbeats 2000000 in
theorem put_new (tb mb : Nat) (sv : Value) (ns : List Nd) (n : Nd) (w : World) (h : Tab w tb mb sv ns) (hf : fidx ns n 0 = none) (hm : ns.length < 20000) :
    Calls Try.prog 97 #[.pointer (some ⟨tb, 0, none⟩), .agg #[.int .i64 n.k, .int .i64 n.a, .int .i64 n.b]] w fun e w' => e = .returned (.tuple #[.int .i64 ns.length, .bool true]) ∧
      ∃ sv', Tab w' tb mb sv' (ns ++ [n]) ∧ Fr (TS tb mb sv) w w' ∧ (∀ b, sv'.ownBlock = some b → sv.ownBlock = some b ∨ w.heap.size ≤ b) := by
  obtain ⟨i0, hi, hz0, hz1, hz2⟩ := info_parts info_node
  have hl := look_drawn mb ns n w (.cells #[.int .i64 n.k, .int .i64 n.a, .int .i64 n.b] 96) h.map
  rw [hf] at hl
  obtain ⟨hc0, hc1⟩ := h.cells
  have htb := lt_of_blk h.blk
  obtain ⟨ps, hpm, hps⟩ := h.map
  have hmb := lt_of_blk hpm
  obtain ⟨g, c, rfl, hg⟩ := h.form
  have hc0' := (World.cell?_alloc_lt w (.cells #[.int .i64 n.k, .int .i64 n.a, .int .i64 n.b] 96) ⟨tb, 0, none⟩ htb).trans hc0
  have hc1' := (World.cell?_alloc_lt w (.cells #[.int .i64 n.k, .int .i64 n.a, .int .i64 n.b] 96) ⟨tb, 1, none⟩ htb).trans hc1
  have hfz' := frozen_of_blk ((alloc_old (.cells #[.int .i64 n.k, .int .i64 n.a, .int .i64 n.b] 96) htb).trans h.blk) 0
  simp only [Option.getD_none, Option.isSome_none] at hl
  have H := Lib.hid h
  have HF := Lib.hid hf
  have HPM := Lib.hid hpm
  have HPS := Lib.hid hps
  clear h hf hc0 hc1 hpm hps
  go_enter Try.func97, Try.ntmps97
  go_wp2_with fail
  go_quiet (fail)
  clear hl
  go_wp2_with fail
  have hgtb : ¬ ownS (.slice (some ⟨g, 0, none⟩) ns.length c) tb := fun he => own_type H.out.own H.out.blk (by decide) he
  have hgmb : ¬ ownS (.slice (some ⟨g, 0, none⟩) ns.length c) mb := fun he => own_map H.out.own HPM.out he
  have hblkA := (alloc_old (.cells #[.int .i64 n.k, .int .i64 n.a, .int .i64 n.b] 96) htb).trans H.out.blk
  have hmapA := (alloc_old (.cells #[.int .i64 n.k, .int .i64 n.a, .int .i64 n.b] 96) hmb).trans HPM.out
  have hsz : (w.alloc (.cells #[.int .i64 n.k, .int .i64 n.a, .int .i64 n.b] 96)).heap.size = w.heap.size + 1 := by simp
  have HBA := Lib.hid hblkA
  have HMA := Lib.hid hmapA
  have HGT := Lib.hid hgtb
  have HGM := Lib.hid hgmb
  have HSZ := Lib.hid hsz
  clear hblkA hmapA hgtb hgmb hsz
  go_region_law ((refine stepS _ 3 #[.int .i64 n.k, .int .i64 n.a, .int .i64 n.b] 96 rfl (.tmp 29) (.tmp 31) 88 rfl i0 _ 24 Try.underlying88 hi hz0 hz1 hz2 rfl (by decide) (by decide) rfl (.slice (some ⟨g, 0, none⟩) ns.length c) ns.length (ndCells ns) (by simp [Act.eval, Act.put]) ((H.out.own).alloc _) (by simp [Act.eval, Act.put]) (by intro u hu; simp at hu; rcases hu with rfl | rfl | rfl <;> rfl) (by omega) ?_; intro v1 w1 hown1 hfr1 hbk1; obtain ⟨g1, c1, hv1, _, hg1, _⟩ := owned_form hown1 (by omega); subst hv1; have HOWN1 := Lib.hid hown1; have HFR1 := Lib.hid hfr1; have HBK1 := Lib.hid hbk1; clear hown1 hfr1 hbk1; have hblk1 := (HFR1.out.block tb (by simp; omega) HGT.out).trans HBA.out; have hcb0 : w1.cell? ⟨tb, 0, none⟩ = some (.slice (some ⟨g, 0, none⟩) ns.length c) := (cell_of_blk hblk1 0).trans rfl; have hfb := frozen_of_blk hblk1 0; have HB1 := Lib.hid hblk1; clear hblk1))
  all_goals
    have hblk1 := HB1.out
    have hB2 := (set_blk hblk1 0 (.slice (some ⟨g1, 0, none⟩) (ns.length + 1) c1))
    have hbx : w1.heap[w.heap.size]? = some (.cells #[.int .i64 n.k, .int .i64 n.a, .int .i64 n.b] 96 (0, 0)) := (HFR1.out.block w.heap.size (by simp) (by
      intro he
      have hgw : g = w.heap.size := by simpa [ownS, Value.ownBlock] using he
      omega)).trans (heap_alloc_new w _)
    have hbx2 := (set_far (p := ⟨tb, 0, none⟩) (show w.heap.size ≠ tb by omega) (.slice (some ⟨g1, 0, none⟩) (ns.length + 1) c1)).trans hbx
    have hm2 := (set_far (p := ⟨tb, 0, none⟩) (show mb ≠ tb by intro e; rw [e] at HMA; have := HMA.out; rw [HBA.out] at this; cases this) (.slice (some ⟨g1, 0, none⟩) (ns.length + 1) c1)).trans ((HFR1.out.block mb (by simp; omega) HGM.out).trans HMA.out)
    have k0 : (w1.setCell ⟨tb, 0, none⟩ (.slice (some ⟨g1, 0, none⟩) (ns.length + 1) c1)).cell? ⟨tb, 0, none⟩ = some (.slice (some ⟨g1, 0, none⟩) (ns.length + 1) c1) := (cell_of_blk hB2 0).trans rfl
    have k1 : (w1.setCell ⟨tb, 0, none⟩ (.slice (some ⟨g1, 0, none⟩) (ns.length + 1) c1)).cell? ⟨tb, 1, none⟩ = some (.map (some mb)) := (cell_of_blk hB2 1).trans rfl
    have x0 : (w1.setCell ⟨tb, 0, none⟩ (.slice (some ⟨g1, 0, none⟩) (ns.length + 1) c1)).cell? ⟨w.heap.size, 0, none⟩ = some (.int .i64 n.k) := (cell_of_blk hbx2 0).trans rfl
    have x1 : (w1.setCell ⟨tb, 0, none⟩ (.slice (some ⟨g1, 0, none⟩) (ns.length + 1) c1)).cell? ⟨w.heap.size, 1, none⟩ = some (.int .i64 n.a) := (cell_of_blk hbx2 1).trans rfl
    have x2 : (w1.setCell ⟨tb, 0, none⟩ (.slice (some ⟨g1, 0, none⟩) (ns.length + 1) c1)).cell? ⟨w.heap.size, 2, none⟩ = some (.int .i64 n.b) := (cell_of_blk hbx2 2).trans rfl
    have h2n := H.out.two
    have hst : (Instr.mapUpdate 135 (.map (some mb)) (.agg #[.int .i64 n.k, .int .i64 n.a, .int .i64 n.b]) (.int .i64 ns.length)).run Try.prog ((w1.setCell ⟨tb, 0, none⟩ (.slice (some ⟨g1, 0, none⟩) (ns.length + 1) c1)).drew) = _ := run_store mb ps n ns.length ((w1.setCell ⟨tb, 0, none⟩ (.slice (some ⟨g1, 0, none⟩) (ns.length + 1) c1)).drew) (by rw [HPS.out.len]; exact hm2) (by rw [HPS.out.look]; exact HF.out)
    rw [HPS.out.len] at hst
    obtain ⟨W3, hW3⟩ : ∃ W3 : World, W3 = { (w1.setCell ⟨tb, 0, none⟩ (.slice (some ⟨g1, 0, none⟩) (ns.length + 1) c1)).drew with heap := (w1.setCell ⟨tb, 0, none⟩ (.slice (some ⟨g1, 0, none⟩) (ns.length + 1) c1)).drew.heap.setIfInBounds mb (.map (ents (ps ++ [(n, ns.length)]) 0).toArray (ns.length + 1)) } := ⟨_, rfl⟩
    rw [← hW3] at hst
    generalize hW2 : w1.setCell ⟨tb, 0, none⟩ (.slice (some ⟨g1, 0, none⟩) (ns.length + 1) c1) = W2 at *
    have hne : mb ≠ tb := by
      intro e
      rw [e, hB2] at hm2
      cases hm2
    have hmb2 := lt_of_blk hm2
    have hB3 : W3.heap[tb]? = some (.cells #[.slice (some ⟨g1, 0, none⟩) (ns.length + 1) c1, .map (some mb)] 137 (0, 0)) := by
      rw [hW3]
      show (W2.heap.setIfInBounds mb _)[tb]? = _
      rw [Array.getElem?_setIfInBounds, if_neg hne]
      exact hB2
    have hM3 : W3.heap[mb]? = some (.map (ents (ps ++ [(n, ns.length)]) 0).toArray (ns.length + 1)) := by
      rw [hW3]
      show (W2.heap.setIfInBounds mb _)[mb]? = _
      rw [Array.getElem?_setIfInBounds, if_pos rfl, if_pos hmb2]
    have hfr2 : Fr (TS tb mb (.slice (some ⟨g, 0, none⟩) ns.length c)) w W2 := by
      have h1 : Fr (TS tb mb (.slice (some ⟨g, 0, none⟩) ns.length c)) w ((w.alloc (.cells #[.int .i64 n.k, .int .i64 n.a, .int .i64 n.b] 96)).drewN (nq + 1)) := ((Fr.refl _ _).alloc _).drewN _
      have h2 := h1.trans HFR1.out (fun b hb => .inl (.inr (.inr hb)))
      have h3 := h2.setCell ⟨tb, 0, none⟩ (.slice (some ⟨g1, 0, none⟩) (ns.length + 1) c1) (.inl (.inl rfl))
      rwa [hW2] at h3
    have hfr3 : Fr (TS tb mb (.slice (some ⟨g, 0, none⟩) ns.length c)) w W3 := by
      rw [hW3]
      refine ⟨hfr2.os, hfr2.tape, hfr2.output, by show w.heap.size ≤ (W2.heap.setIfInBounds mb _).size; rw [Array.size_setIfInBounds]; exact hfr2.size, fun b hb hn => ?_⟩
      show (W2.heap.setIfInBounds mb _)[b]? = _
      rw [Array.getElem?_setIfInBounds, if_neg (fun e => hn (.inr (.inl e.symm)))]
      exact hfr2.block b hb hn
    have hown3 : W3.ownsRow 0 96 3 (.slice (some ⟨g1, 0, none⟩) (ns.length + 1) c1) (ns.length + 1) (ndCells (ns ++ [n])) := by
      have h1 : Fr (fun b => b = tb ∨ b = mb) w1 W3 := by
        rw [hW3, ← hW2]
        refine ⟨rfl, rfl, rfl, by simp [World.setCell, World.drew], fun b hb hn => ?_⟩
        show ((w1.setCell _ _).heap.setIfInBounds mb _)[b]? = _
        rw [Array.getElem?_setIfInBounds, if_neg (fun e => hn (.inr e.symm))]
        exact set_far (fun e => hn (.inl e)) _
      rw [ndCells_append, ndCells_one]
      refine h1.own HOWN1.out fun b hb hS => ?_
      have hbg : g1 = b := by simpa [Value.ownBlock] using hb
      subst hbg
      rcases HOWN1.out.2 with ⟨h', _⟩ | ⟨g', cap, cur, hv, _, hh, _⟩
      · cases h'
      · injection hv with hv
        injection hv with hv
        injection hv with hv
        subst hv
        rcases hS with rfl | rfl
        · rw [HB1.out] at hh
          injection hh with hh
          injection hh with _ ht
          exact absurd ht (by decide)
        · have := (HFR1.out.block g1 (by simp; omega) HGM.out).trans HMA.out
          rw [this] at hh
          cases hh
    have kk0 : W3.cell? ⟨tb, 0, none⟩ = some (.slice (some ⟨g1, 0, none⟩) (ns.length + 1) c1) := (cell_of_blk hB3 0).trans rfl
    have hbk3 : ∀ b, (Value.slice (some ⟨g1, 0, none⟩) (ns.length + 1) c1).ownBlock = some b → (Value.slice (some ⟨g, 0, none⟩) ns.length c).ownBlock = some b ∨ w.heap.size ≤ b := by
      intro b hb
      rcases HBK1.out with h1 | h1
      · left; rw [← h1]; exact hb
      · right
        rw [h1] at hb
        have : w.heap.size + 1 + 1 = b := by simpa using hb
        omega
    have hend : Tab W3 tb mb (.slice (some ⟨g1, 0, none⟩) (ns.length + 1) c1) (ns ++ [n]) := ⟨hB3, by rw [List.length_append]; exact hown3, ⟨_, by rw [List.length_append]; exact hM3, HPS.out.snoc n⟩, by rw [List.length_append]; simp; omega, by rw [List.length_append]; simp; omega⟩
    have HEND := Lib.hid hend
    have HFR3 := Lib.hid hfr3
    have HBK3 := Lib.hid hbk3
    have hwr : IntKind.i64.wrap (ns.length : Int) = ns.length := IntWalk.i64_in _ (by omega)
    clear hW2 hB2 hm2 hbx hbx2 hblk1 hcb0 hfb hc0' hc1' hfz' hW3 hB3 hM3 hfr2 hfr3 hown3 hbk3 hend hne hmb2 H HF HBA HMA HGT HGM HSZ HFR1 HBK1 HB1 HOWN1
    go_wp2_with fail
    go_still_tail 11, (by kernel_rfl)
    change wpList _ _ _ _ _ W2.drew
    go_wp2_with fail
    go_ret2
    exact ⟨rfl, _, HEND.out, HFR3.out, HBK3.out⟩
end Go.Proofs.Ytbcabcdgblmnkaa
