/- Contract of package logic: Intern. -/
import Derived.Test.YtdpnififbpoagaaPlPlace
import Derived.Deep.DeepCutAuto
namespace Go.Proofs.Ytdpnififbpoagaa
open Go.RowKit
set_option linter.unusedVariables false
set_option linter.unusedSimpArgs false

theorem tnode_in (tb mb : Nat) (sv : Value) (ns : List Nd) (i : Nat) (w : World) (h : Tab w tb mb sv ns) (hi : i < ns.length) :
    Calls Try.prog 41 #[.pointer (some ⟨tb, 0, none⟩), .int .i64 (i : Int)] w fun e w' => e = .returned (.tuple #[.agg #[.int .i64 (nd ns i).k, .int .i64 (nd ns i).a, .int .i64 (nd ns i).b], .bool true]) ∧ Below w.heap.size w w' := by
  have ht1 := h.below ((Below.refl _ _).alloc (Nat.le_refl _) (.cells #[.int .i64 0, .int .i64 0, .int .i64 0] 33))
  have L := len_old tb mb sv ns _ ht1
  have hi0 : ¬ (i : Int) < 0 := by omega
  have hi1 : ¬ (ns.length : Int) ≤ i := by omega
  have htb : tb < w.heap.size := lt_of_blk h.blk
  obtain ⟨g, cg, rfl, hg⟩ := h.form
  obtain ⟨c0, c1⟩ := h.cells
  obtain ⟨x0, x1, x2⟩ := h.node i hi
  rw [nd_get ns i hi]
  clear h c1 ht1
  generalize ns[i] = X at *
  obtain ⟨xk, xa, xb⟩ := X
  simp only at x0 x1 x2 ⊢
  have y0 := (World.cell?_alloc_lt w (.cells #[.int .i64 0, .int .i64 0, .int .i64 0] 33) ⟨g, i * 3, none⟩ hg).trans x0
  have y1 := (World.cell?_alloc_lt w (.cells #[.int .i64 0, .int .i64 0, .int .i64 0] 33) ⟨g, i * 3 + 1, none⟩ hg).trans x1
  have y2 := (World.cell?_alloc_lt w (.cells #[.int .i64 0, .int .i64 0, .int .i64 0] 33) ⟨g, i * 3 + 2, none⟩ hg).trans x2
  have d0 := (World.cell?_alloc_lt w (.cells #[.int .i64 0, .int .i64 0, .int .i64 0] 33) ⟨tb, 0, none⟩ htb).trans c0
  clear x0 x1 x2 c0
  go_enter Try.func41, Try.ntmps41
  go_wp2_with (go_at_call 20; refine L.mono ?_; rintro e w' ⟨rfl, rfl⟩)
  refine bodyPost_ret (v := .tuple #[.agg #[.int .i64 xk, .int .i64 xa, .int .i64 xb], .bool true]) (by simp [results, Try.results41, go_sem]) rfl ?_
  exact ⟨rfl, (Below.refl _ _).alloc (Nat.le_refl _) _⟩

theorem bstepP {w W W1 : World} (h : Below w.heap.size w W) (h' : Below W.heap.size W W1) : Below w.heap.size w W1 := h.trans (h'.mono h.size)
/-- what Intern answers beside the error. -/
def internP (f : Fm) (n : Int) : Nat × List Nd := if checkF f n = 0 then ((placeF f ns0).2, (placeF f ns0).1) else (0, [])
theorem take_snoc (ns : List Nd) (i : Nat) (h : i < ns.length) : ndCells (ns.take (i + 1)) = ndCells (ns.take i) ++ [.int .i64 (nd ns i).k, .int .i64 (nd ns i).a, .int .i64 (nd ns i).b] := by
  rw [List.take_add_one, List.getElem?_eq_getElem h, ndCells_append, nd_get ns i h]
  rfl

set_option maxRecDepth 100000 in
set_option maxHeartbeats 4000000 in
theorem intern_any {w0 : World} {fs : List Fm} {sv : Value} (h : FIn w0 fs sv) (w : World) (k a n : Int) (hb : Below w0.heap.size w0 w) :
    Calls Try.prog 35 #[.agg #[.int .i64 k, .int .i64 a, sv], .int .i64 n] w fun e w' => ∃ v, e = .returned (.tuple #[.int .i64 ((internP (.mk k a fs) n).1 : Nat), v, .int .i64 (checkF (.mk k a fs) n)]) ∧
      w'.ownsRow w.heap.size 33 3 v (internP (.mk k a fs) n).2.length (ndCells (internP (.mk k a fs) n).2) ∧ Below w.heap.size w w' := by
  obtain ⟨i0, hi, hz0, hz1, hz2⟩ := info_parts info_node
  have hb1 : Below w.heap.size w (w.alloc (.cells #[.int .i64 k, .int .i64 a, sv] 48)) := (Below.refl _ _).alloc (Nat.le_refl _) _
  have hck := check_any h (w.alloc (.cells #[.int .i64 k, .int .i64 a, sv] 48)) k a n (hb.trans (hb1.mono hb.size))
  have hpl := fun (hC : checkF (.mk k a fs) n = 0) W tb mb tv ns hW hT hle hg => place_any h W k a n tb mb tv ns hW (checkF_great hC).2 hT hle hg
  unfold internP
  obtain ⟨A, c, rfl, _, _⟩ := h.form
  have hbox := heap_alloc_new w (.cells #[.int .i64 k, .int .i64 a, .slice A fs.length c] 48)
  generalize checkF (.mk k a fs) n = C at *
  by_cases hC : C = 0
  · subst hC
    rw [if_pos rfl]
    have hpl2 := fun W tb mb tv hW hT hle => hpl rfl W tb mb tv ns0 hW hT hle good0
    clear hpl
    generalize placeF (.mk k a fs) ns0 = p at *
    obtain ⟨ns, root⟩ := p
    simp only at hpl2 ⊢
    have HPL := Lib.hid hpl2
    have HB := Lib.hid hb
    have HB1 := Lib.hid hb1
    have HBX := Lib.hid hbox
    clear hpl2 hb hb1 h hbox
    go_enter Try.func35, Try.ntmps35
    go_wp2_with (first | (go_at_call 39; refine hck.mono ?_; rintro e w1 ⟨rfl, hb2⟩; have hbk := bstepP HB1.out hb2; have HB2 := Lib.hid hbk; have hbx1 := (hb2.block _ (lt_of_blk HBX.out)).trans HBX.out; have HBX1 := Lib.hid hbx1; clear hb2 hbx1 hbk hck) | (go_at_call 33; refine (new_tab w1).mono ?_; rintro e w2 ⟨rfl, tv, mb, ht2, hb3, hmb, htv⟩; have hbx2 := (hb3.block _ (lt_of_blk HBX1.out)).trans HBX1.out; have x0 := cell_of_blk hbx2 0; have x1 := cell_of_blk hbx2 1; have x2 := cell_of_blk hbx2 2; simp at x0 x1 x2; have HB3 := Lib.hid (bstepP HB2.out hb3); have HPL2 := Lib.hid (HPL.out w2 w1.heap.size mb tv (HB.out.trans (HB3.out.mono HB.out.size)) ht2 (by have h1 := HB.out.size; have h2 := HB2.out.size; intro b hb; rcases hb with rfl | rfl | hb; omega; omega; have := htv b hb; omega)); have HBW := Lib.hid hb3; have HTV := Lib.hid (And.intro hmb htv); clear hb3 hbx2 ht2 hmb htv) | (go_at_call 58; refine HPL2.out.mono ?_; rintro e w3 ⟨rfl, tv3, ht3, hf3, ho3⟩; have hb23 : Below w1.heap.size w2 w3 := hf3.below HBW.out.size (by intro b hb; rcases hb with rfl | rfl | hb; exact Nat.le_refl _; exact HTV.out.1; exact HTV.out.2 b hb); have HB4 := Lib.hid (HB2.out.trans ((HBW.out.trans hb23).mono HB2.out.size)); have HT3 := Lib.hid ht3; clear hf3 ho3 hb23 ht3) | (go_at_call 20; refine (len_old _ _ _ _ _ HT3.out).mono ?_; rintro e w' ⟨rfl, hw⟩; obtain rfl := hw.symm))
    have hmost := HT3.out.most
    go_loopw [10, 26] (fun y x wr => ∃ (i : Nat), i ≤ ns.length ∧ x = .int .i64 i ∧ wr.ownsRow w3.heap.size 33 3 y i (ndCells (ns.take i)) ∧ Below w3.heap.size w3 wr) (fun _ x _ => ns.length - (intOf x).toNat)
    case atStart => exact ⟨0, Nat.zero_le _, rfl, World.ownsRow_nil _ _ _ _, Below.refl _ _⟩
    case round =>
      obtain ⟨i, hi', rfl, hown, hbk⟩ := hrel
      by_cases hlt : i < ns.length
      · have hnode := tnode_in _ _ _ ns i wr (HT3.out.below hbk) hlt
        have hsn := take_snoc ns i hlt
        generalize nd ns i = X at *
        obtain ⟨xk, xa, xb⟩ := X
        simp only at hnode hsn
        have HSN := Lib.hid hsn
        have HOWN := Lib.hid hown
        clear hsn hown
        go_upto_region 11 with (go_at_call 41; refine hnode.mono ?_; rintro e w4 ⟨rfl, hb4⟩; have HB4' := Lib.hid hb4; clear hb4)
        have hb5 := HB4'.out.alloc HB4'.out.size (.cells #[.int .i64 xk, .int .i64 xa, .int .i64 xb] 33)
        have hn5 := heap_alloc_new w4 (.cells #[.int .i64 xk, .int .i64 xa, .int .i64 xb] 33)
        obtain ⟨W5, hW5⟩ : ∃ W5, W5 = w4.alloc (.cells #[.int .i64 xk, .int .i64 xa, .int .i64 xb] 33) := ⟨_, rfl⟩
        rw [← hW5] at hb5 hn5 ⊢
        clear hW5
        have z0 := cell_of_blk hn5 0
        have z1 := cell_of_blk hn5 1
        have z2 := cell_of_blk hn5 2
        simp at z0 z1 z2
        have hw5 := (own_more (own_below HOWN.out hb5) (Nat.zero_le _) : W5.ownsRow 0 _ _ _ _ _)
        have HB5 := Lib.hid hb5
        have HW5 := Lib.hid hw5
        clear hb5 hn5 hw5 hnode
        go_wp2_with (refine appS W5 3 #[.int .i64 xk, .int .i64 xa, .int .i64 xb] 33 rfl (.tmp 35) (.tmp 37) 25 rfl i0 _ 24 Try.underlying25 hi hz0 hz1 hz2 rfl (by decide) (by decide) rfl u10 i (ndCells (ns.take i)) rfl HW5.out rfl (by intro u hu; simp at hu; rcases hu with rfl | rfl | rfl <;> rfl) (by omega) ?_; intro v6 w6 hown6 hfr6 hbk6)
        have hs3 : w3.heap.size ≤ W5.heap.size := Nat.le_trans hbk.size HB5.out.size
        have hob : ∀ b, u10.ownBlock = some b → w3.heap.size ≤ b := fun b hb => (own_lt HOWN.out hb).1
        have h6 := own_base hown6 (B := w3.heap.size) (fun b hb => by
          rcases hbk6 with e | e
          · rw [e] at hb; exact hob b hb
          · rw [e] at hb; injection hb with hb; omega)
        refine ⟨⟨i + 1, by omega, by go_num, by rw [HSN.out]; exact h6, ?_⟩, by simp [intOf]; omega⟩
        exact (hbk.trans (HB5.out.mono hbk.size)).trans (hfr6.below hs3 hob)
      · obtain rfl : i = ns.length := by omega
        rw [List.take_length] at hown
        have HOWN := Lib.hid hown
        clear hown
        go_wp2_with fail
        go_ret3
        exact ⟨_, rfl, own_more HOWN.out HB4.out.size, bstepP HB4.out hbk⟩
  · rw [if_neg hC]
    have hC' : (C == 0) = false := by simpa using hC
    clear hpl hb h
    go_enter Try.func35, Try.ntmps35
    go_wp2_with (go_at_call 39; refine hck.mono ?_; rintro e w1 ⟨rfl, hb2⟩)
    go_ret3
    exact ⟨_, rfl, World.ownsRow_nil _ _ _ _, bstepP hb1 hb2⟩
end Go.Proofs.Ytdpnififbpoagaa
