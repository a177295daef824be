/- Contracts of package logic: what sees an atom, and walk. -/
import Derived.Test.YtdpnififbpoagaaFmOn
import Derived.Test.YtdpnififbpoagaaFmMath
import Derived.Test.YtdpnififbpoagaaRegApp
namespace Go.Proofs.Ytdpnififbpoagaa
open Go.RowKit
set_option linter.unusedVariables false
set_option linter.unusedSimpArgs false

mutual
/-- the atoms as they stand, from left to right. -/
def atomsF : Fm → List Int
  | .mk k a sub => (if k = 1 then [a] else []) ++ atomsL sub
def atomsL : List Fm → List Int
  | [] => []
  | f :: fs => atomsF f ++ atomsL fs
end
mutual
theorem atomsF_len (f : Fm) : (atomsF f).length ≤ sizeF f := by
  cases f with
  | mk k a sub =>
    have := atomsL_len sub
    rw [atomsF, sizeF, List.length_append]
    split <;> simp <;> omega
theorem atomsL_len (fs : List Fm) : (atomsL fs).length ≤ sizeL fs := by
  cases fs with
  | nil => simp [atomsL]
  | cons f fs =>
    have := atomsF_len f
    have := atomsL_len fs
    rw [atomsL, sizeL, List.length_append]
    omega
end
def intL (xs : List Int) : List Value := xs.map (Value.int .i64)
theorem intL_append (xs ys : List Int) : intL (xs ++ ys) = intL xs ++ intL ys := by simp [intL]
theorem info_intA : (Try.prog.info? 3).map (fun i => (i.zero, i.size, i.bytes)) = some (some (.int .i64 0), 1, 8) := by kernel_rfl

/-- the list that grows behind a captured variable. -/
structure Seen (w : World) (cb : Nat) (v : Value) (ys : List Int) : Prop where
  blk : w.heap[cb]? = some (.cells #[v] 24 (0, 0))
  own : w.ownsRow (cb + 1) 3 1 v ys.length (intL ys)
theorem Seen.below {w w' : World} {cb : Nat} {v : Value} {ys : List Int} (h : Seen w cb v ys) (hb : Below w.heap.size w w') : Seen w' cb v ys :=
  ⟨(hb.block _ (lt_of_blk h.blk)).trans h.blk, own_below h.own hb⟩

set_option maxRecDepth 100000 in
set_option maxHeartbeats 4000000 in
theorem see_any (w : World) (cb : Nat) (v : Value) (ys : List Int) (a : Int) (h : Seen w cb v ys) (hn : ys.length ≤ 100000) :
    Calls Try.prog 60 #[.int .i64 a, .pointer (some ⟨cb, 0, none⟩)] w fun e w' => e = .returned (.tuple #[]) ∧ ∃ v', Seen w' cb v' (ys ++ [a]) ∧ Fr (fun b => b = cb ∨ ownS v b) w w' := by
  obtain ⟨i0, hi, hz0, hz1, hz2⟩ := info_parts info_intA
  have hlt := lt_of_blk h.blk
  have c0 : w.cell? ⟨cb, 0, none⟩ = some v := (cell_of_blk h.blk 0).trans rfl
  have hown := h.own
  have hne : ∀ b, v.ownBlock = some b → b ≠ cb := fun b hb e => by have := (own_lt hown hb).1; omega
  obtain ⟨A, c, rfl, hnc, _⟩ := ownsRow_form hown
  have HBLK := Lib.hid h.blk
  clear h
  go_enter Try.func60, Try.ntmps60
  go_wp2_with (at_builtin; refine app1 (cb + 1) w w (.int .i64 a) 3 rfl _ _ 24 rfl i0 (.int .i64 0) 8 Try.underlying24 hi hz0 hz1 hz2 rfl (by decide) _ ys.length _ rfl (by omega) hown (Below.refl _ _) rfl rfl (by omega) ?_)
  intro v1 w1 hown1 hb1 hg1
  have hf1 : Fr (ownS (.slice A ys.length c)) w w1 := Fr.of_grown hg1 (fun k hk => .inl hk)
  have hblk1 := (hf1.block cb hlt (fun hs => hne cb hs rfl)).trans HBLK.out
  have hset := set_blk hblk1 0 v1
  have hfr := (hf1.mono (S' := fun b => b = cb ∨ ownS (.slice A ys.length c) b) (fun b _ hs => .inr hs)).setCell ⟨cb, 0, none⟩ v1 (.inl (.inl rfl))
  have hs1 := (Fr.refl (fun b => b = cb) w1).setCell ⟨cb, 0, none⟩ v1 (.inl rfl)
  have hown2 := hs1.own hown1 (fun b hb e => by have := (own_lt hown1 hb).1; omega)
  have x0 : w1.cell? ⟨cb, 0, none⟩ = some (.slice A ys.length c) := (cell_of_blk hblk1 0).trans rfl
  have p0 := frozen_of_blk hblk1 0
  obtain ⟨A1, c1, rfl, _, _⟩ := ownsRow_form hown1
  have HS := Lib.hid hset
  have HF := Lib.hid hfr
  have HO := Lib.hid hown2
  clear hown1 hb1 hg1 hf1 hblk1 hset hfr hs1 hown2 hown c0
  go_wp2_with fail
  go_end0
  exact ⟨rfl, _, ⟨HS.out, by rw [List.length_append, intL_append]; exact HO.out⟩, HF.out⟩

set_option maxRecDepth 100000 in
set_option maxHeartbeats 4000000 in
theorem walk_any {w0 : World} {fs : List Fm} {sv : Value} (h : FIn w0 fs sv) (cb : Nat) (hcb : w0.heap.size ≤ cb) : ∀ (w : World) (k a : Int) (v : Value) (ys : List Int), Below w0.heap.size w0 w → Seen w cb v ys → ys.length + sizeF (.mk k a fs) ≤ 50000 →
    Calls Try.prog 59 #[.agg #[.int .i64 k, .int .i64 a, sv], .func (Fn.func 60) #[] #[.pointer (some ⟨cb, 0, none⟩)]] w fun e w' => e = .returned (.tuple #[]) ∧ ∃ v', Seen w' cb v' (ys ++ atomsF (.mk k a fs)) ∧ Below cb w w' := by
  induction h with
  | mk A m c fs ss hl hs hnc hc hr hsub ih =>
    intro w k a v ys hb hsn hsz
    unfold maxLen at hc
    rw [sizeF] at hsz
    rw [atomsF]
    have hcw := lt_of_blk hsn.blk
    have hb1 : Below cb w (w.alloc (.cells #[.int .i64 k, .int .i64 a, .slice A m c] 48)) := (Below.refl _ _).alloc (by omega) _
    have h01 : Below w0.heap.size w0 (w.alloc (.cells #[.int .i64 k, .int .i64 a, .slice A m c] 48)) := hb.alloc hb.size _
    have hsn1 : Seen (w.alloc (.cells #[.int .i64 k, .int .i64 a, .slice A m c] 48)) cb v ys := hsn.below ((Below.refl _ _).alloc (Nat.le_refl _) _)
    have hbx := heap_alloc_new w (.cells #[.int .i64 k, .int .i64 a, .slice A m c] 48)
    have hfm : ∀ (i : Nat) (s : Value), ss[i]? = some s → ∃ A n c, s = Value.slice A n c := fun i s hi => by
      have hlt := (List.getElem?_eq_some_iff.1 hi).1
      obtain ⟨A', c', e, _⟩ := (hsub i _ s (List.getElem?_eq_getElem (by omega)) hi).form
      exact ⟨A', _, c', e⟩
    obtain ⟨W1, hW1⟩ : ∃ W, W = w.alloc (.cells #[.int .i64 k, .int .i64 a, .slice A m c] 48) := ⟨_, rfl⟩
    rw [← hW1] at hb1 h01 hsn1 hbx
    have x0 := cell_of_blk hbx 0
    have x1 := cell_of_blk hbx 1
    have x2 := cell_of_blk hbx 2
    simp at x0 x1 x2
    have HSUB := Lib.hid hfm
    have HIH := Lib.hid ih
    have HR := Lib.hid hr
    have H01 := Lib.hid h01
    have HB1 := Lib.hid hb1
    have HSN := Lib.hid hsn1
    have HBX := Lib.hid hbx
    clear ih hsub hb hsn hr hfm hb1 h01 hsn1 hbx
    by_cases k1 : k = 1
    · subst k1
      rw [if_pos rfl]
      have hsee := see_any W1 cb v ys a HSN.out (by omega)
      obtain ⟨Z, hZ⟩ : ∃ Z, Z = ys ++ [a] := ⟨_, rfl⟩
      have hZl : Z.length + sizeL fs ≤ 50000 := by rw [hZ, List.length_append]; simp; omega
      have hZe : ys ++ ([a] ++ atomsL fs) = Z ++ atomsL fs := by rw [hZ]; simp
      rw [← hZ] at hsee
      rw [hZe]
      clear hZ hZe hsz
      go_enter Try.func59, Try.ntmps59
      go_upto_region 1 with fail
      rw [← hW1]
      clear hW1
      go_upto_region 3 with (go_at_call 60; refine hsee.mono ?_; rintro e w2 ⟨rfl, v2, hsn2, hf2⟩)
      have hbx2 := (hf2.block w.heap.size (lt_of_blk HBX.out) (fun hs => by
        rcases hs with e | e
        · omega
        · exact own_type HSN.out.own HBX.out (by decide) e)).trans HBX.out
      have hb12 : Below cb W1 w2 := hf2.below (Nat.le_of_lt (lt_of_blk HSN.out.blk)) (fun b e => by
        rcases e with e | e
        · omega
        · have := (own_lt HSN.out.own e).1; omega)
      have h02 : Below w0.heap.size w0 w2 := H01.out.trans (hb12.mono hcb)
      have HB2 := Lib.hid (HB1.out.trans hb12)
      have HSN2 := Lib.hid hsn2
      have H02 := Lib.hid h02
      clear x0 x1 x2 hf2 hb12 h02 hsn2 hsee HB1 HSN H01
      have x0 := cell_of_blk hbx2 0
      have x1 := cell_of_blk hbx2 1
      have x2 := cell_of_blk hbx2 2
      simp at x0 x1 x2
      clear hbx2
      go_wp2_with fail
      clear x0 x1 x2
      have hZ2 : Z.length + sizeL fs ≤ 50000 := hZl
      go_loopw [16] (fun x wr => ∃ (i : Nat) (v3 : Value) (zs : List Int), i ≤ m ∧ x = .int .i64 i ∧ zs ++ atomsL (fs.drop i) = Z ++ atomsL fs ∧ zs.length + sizeL (fs.drop i) ≤ 50000 ∧ Seen wr cb v3 zs ∧ Below cb w2 wr) (fun x _ => m - (intOf x).toNat)
      case atStart => exact ⟨0, v2, Z, Nat.zero_le _, rfl, by rw [List.drop_zero], by rw [List.drop_zero]; exact hZ2, HSN2.out, Below.refl _ _⟩
      case round =>
        obtain ⟨i, v3, zs, hi, rfl, hC, hsz', hsn', hbk⟩ := hrel
        by_cases hlt : i < m
        · have hf : fs[i]? = some fs[i] := List.getElem?_eq_getElem (by omega)
          have hss : ss[i]? = some ss[i] := List.getElem?_eq_getElem (by omega)
          have h0r : Below w0.heap.size w0 wr := H02.out.trans (hbk.mono hcb)
          obtain ⟨b, off, rfl, y0, y1, y2, hbs⟩ := (HR.out.below h0r).f3 i hlt hf hss
          rw [drop_cons fs i _ hf, atomsL] at hC
          rw [drop_cons fs i _ hf, sizeL] at hsz'
          generalize fs[i] = f at *
          generalize ss[i] = s at *
          obtain ⟨A', n1, c', rfl⟩ := HSUB.out i s hss
          have hbA : Below wr.heap.size wr (wr.alloc (.cells #[.int .i64 f.k, .int .i64 f.a, .slice A' n1 c'] 48)) := (Below.refl _ _).alloc (Nat.le_refl _) _
          have hcl := HIH.out i f _ hf hss _ f.k f.a v3 zs (h0r.alloc h0r.size (.cells #[.int .i64 f.k, .int .i64 f.a, .slice A' n1 c'] 48)) (hsn'.below hbA) (by rw [f.eta]; omega)
          rw [f.eta] at hcl
          have hal := atomsF_len f
          rw [← List.append_assoc] at hC
          generalize atomsF f = AF at *
          have HCL := Lib.hid hcl
          have HC := Lib.hid hC
          have hcr := lt_of_blk hsn'.blk
          have HBK := Lib.hid hbk
          have HSZ := Lib.hid (show (zs ++ AF).length + sizeL (fs.drop (i + 1)) ≤ 50000 by rw [List.length_append]; omega)
          clear hcl hC hf hss h0r hbA hsn' hbk hsz' hal
          go_wp2_with (go_at_call 59; refine HCL.out.mono ?_; rintro e w3 ⟨rfl, v4, hsn4, hb4⟩; have HSN4 := Lib.hid hsn4; have HB4 := Lib.hid (HBK.out.trans (((Below.refl cb wr).alloc (Nat.le_of_lt hcr) _).trans hb4)); clear hsn4 hb4)
          go_roundw
          case rel => exact ⟨i + 1, v4, zs ++ AF, by omega, by go_num, HC.out, HSZ.out, HSN4.out, HB4.out⟩
          case measure => simp [intOf]; omega
        · obtain rfl : m = i := by omega
          rw [List.drop_of_length_le (by omega), atomsL, List.append_nil] at hC
          have HSN5 := Lib.hid hsn'
          have HC := Lib.hid hC
          clear hsn' hC hsz'
          go_wp2_with fail
          go_end0
          exact ⟨rfl, v3, by rw [← HC.out]; exact HSN5.out, HB2.out.trans hbk⟩
    · rw [if_neg k1, List.nil_append]
      have k1' : (k == 1) = false := by simpa using k1
      go_enter Try.func59, Try.ntmps59
      go_upto_region 1 with fail
      rw [← hW1]
      clear hW1
      have HB2 := Lib.hid HB1.out
      have HSN2 := Lib.hid HSN.out
      have H02 := Lib.hid H01.out
      clear HB1 HSN H01
      obtain ⟨w2, rfl⟩ : ∃ x, x = W1 := ⟨_, rfl⟩
      obtain ⟨v2, rfl⟩ : ∃ x, x = v := ⟨_, rfl⟩
      have hZl : ys.length + sizeL fs ≤ 50000 := by omega
      clear hsz
      go_wp2_with fail
      clear x0 x1 x2
      have hZ2 : ys.length + sizeL fs ≤ 50000 := hZl
      go_loopw [16] (fun x wr => ∃ (i : Nat) (v3 : Value) (zs : List Int), i ≤ m ∧ x = .int .i64 i ∧ zs ++ atomsL (fs.drop i) = ys ++ atomsL fs ∧ zs.length + sizeL (fs.drop i) ≤ 50000 ∧ Seen wr cb v3 zs ∧ Below cb w2 wr) (fun x _ => m - (intOf x).toNat)
      case atStart => exact ⟨0, v2, ys, Nat.zero_le _, rfl, by rw [List.drop_zero], by rw [List.drop_zero]; exact hZ2, HSN2.out, Below.refl _ _⟩
      case round =>
        obtain ⟨i, v3, zs, hi, rfl, hC, hsz', hsn', hbk⟩ := hrel
        by_cases hlt : i < m
        · have hf : fs[i]? = some fs[i] := List.getElem?_eq_getElem (by omega)
          have hss : ss[i]? = some ss[i] := List.getElem?_eq_getElem (by omega)
          have h0r : Below w0.heap.size w0 wr := H02.out.trans (hbk.mono hcb)
          obtain ⟨b, off, rfl, y0, y1, y2, hbs⟩ := (HR.out.below h0r).f3 i hlt hf hss
          rw [drop_cons fs i _ hf, atomsL] at hC
          rw [drop_cons fs i _ hf, sizeL] at hsz'
          generalize fs[i] = f at *
          generalize ss[i] = s at *
          obtain ⟨A', n1, c', rfl⟩ := HSUB.out i s hss
          have hbA : Below wr.heap.size wr (wr.alloc (.cells #[.int .i64 f.k, .int .i64 f.a, .slice A' n1 c'] 48)) := (Below.refl _ _).alloc (Nat.le_refl _) _
          have hcl := HIH.out i f _ hf hss _ f.k f.a v3 zs (h0r.alloc h0r.size (.cells #[.int .i64 f.k, .int .i64 f.a, .slice A' n1 c'] 48)) (hsn'.below hbA) (by rw [f.eta]; omega)
          rw [f.eta] at hcl
          have hal := atomsF_len f
          rw [← List.append_assoc] at hC
          generalize atomsF f = AF at *
          have HCL := Lib.hid hcl
          have HC := Lib.hid hC
          have hcr := lt_of_blk hsn'.blk
          have HBK := Lib.hid hbk
          have HSZ := Lib.hid (show (zs ++ AF).length + sizeL (fs.drop (i + 1)) ≤ 50000 by rw [List.length_append]; omega)
          clear hcl hC hf hss h0r hbA hsn' hbk hsz' hal
          go_wp2_with (go_at_call 59; refine HCL.out.mono ?_; rintro e w3 ⟨rfl, v4, hsn4, hb4⟩; have HSN4 := Lib.hid hsn4; have HB4 := Lib.hid (HBK.out.trans (((Below.refl cb wr).alloc (Nat.le_of_lt hcr) _).trans hb4)); clear hsn4 hb4)
          go_roundw
          case rel => exact ⟨i + 1, v4, zs ++ AF, by omega, by go_num, HC.out, HSZ.out, HSN4.out, HB4.out⟩
          case measure => simp [intOf]; omega
        · obtain rfl : m = i := by omega
          rw [List.drop_of_length_le (by omega), atomsL, List.append_nil] at hC
          have HSN5 := Lib.hid hsn'
          have HC := Lib.hid hC
          clear hsn' hC hsz'
          go_wp2_with fail
          go_end0
          exact ⟨rfl, v3, by rw [← HC.out]; exact HSN5.out, HB2.out.trans hbk⟩
end Go.Proofs.Ytdpnififbpoagaa
