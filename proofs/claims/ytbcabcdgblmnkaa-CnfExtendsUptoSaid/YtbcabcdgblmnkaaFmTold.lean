/- Contracts of the law's copy of a formula: told, Told. -/
import Derived.Test.YtbcabcdgblmnkaaFmMath
import Derived.Deep.DeepCutAuto
namespace Go.Proofs.Ytbcabcdgblmnkaa
open Go.RowKit
set_option linter.unusedVariables false
set_option linter.unusedSimpArgs false

theorem info_rf : (Try.prog.info? 66).map (fun i => (i.zero, i.size, i.bytes)) = some (some (.agg #[.int .i64 0, .int .i64 0, .slice none 0 0]), 3, 40) := by kernel_rfl
set_option maxRecDepth 100000 in
set_option maxHeartbeats 4000000 in
theorem told_any {w0 : World} {fs : List Fm} {sv : Value} (h : FIn w0 fs sv) : ∀ (w : World) (k a : Int) (m : Nat), Below w0.heap.size w0 w → 1 ≤ m → m ≤ 20002 →
    Calls Try.prog 57 #[.agg #[.int .i64 k, .int .i64 a, sv], .int .i64 (m : Int)] w fun e w' => ∃ v, e = .returned (.tuple #[v, .int .i64 ((toldF (.mk k a fs) m).2 : Nat)]) ∧ FRes w.heap.size w' (toldF (.mk k a fs) m).1 v ∧ Below w.heap.size w w' := by
  induction h with
  | mk A n c fs ss hl hs hnc hc hr hsub ih =>
    intro w k a m hb hm1 hm2
    rw [toldF]
    unfold maxLen at hc
    generalize hT : toldL fs (m - 1) = T
    obtain ⟨i0, hi, hz0, hz1, hz2⟩ := info_parts info_rf
    have hfm : ∀ (i : Nat) (s : Value), ss[i]? = some s → ∃ A n c, s = Value.slice A n c := fun i s hi => by
      have hlt := (List.getElem?_eq_some_iff.1 hi).1
      obtain ⟨A', c', e, _⟩ := (hsub i _ s (List.getElem?_eq_getElem (by omega)) hi).form
      exact ⟨A', _, c', e⟩
    have HSUB := Lib.hid hfm
    have HIH := Lib.hid ih
    have HR := Lib.hid hr
    have HB := Lib.hid hb
    have HT := Lib.hid hT
    clear ih hsub hr hb hT hfm
    go_enter Try.func57, Try.ntmps57
    go_wp2_with fail
    have st0 : NSt 66 w (((w.alloc (.cells #[.int .i64 k, .int .i64 a, .slice A n c] 58)).alloc (.cells #[.int .i64 0, .int .i64 0, .slice none 0 0] 66)).alloc (.cells #[.int .i64 k, .int .i64 a, .slice none 0 0] 66)) k a [] (.slice none 0 0) [] := ⟨new_at _ _ _ (by simp), (alloc_old _ (by simp)).trans (new_at _ _ _ (by simp)), Grow.nil _ _ _ _, (((Below.refl _ _).alloc (Nat.le_refl _) _).alloc (by simp) _).alloc (by simp; omega) _⟩
    have S0 := Lib.hid st0
    clear st0
    go_loopw [1, 20] (fun y x wr => ∃ (i t : Nat) (gs : List Fm) (v : Value) (tt : List Value), i ≤ n ∧ x = .int .i64 i ∧ y = .int .i64 t ∧ gs.length + t ≤ 20001 ∧ (gs ++ (toldL (fs.drop i) t).1, (toldL (fs.drop i) t).2) = T ∧ NSt 66 w wr k a gs v tt) (fun _ x _ => n - (intOf x).toNat)
    case atStart => exact ⟨0, m - 1, [], _, _, Nat.zero_le _, rfl, by go_num, by simp; omega, by simpa using HT.out, S0.out⟩
    case round =>
      obtain ⟨i, t, gs, v, tt, hi', rfl, rfl, hgl, hT, hst⟩ := hrel
      by_cases hlt : i < n
      · have hf : fs[i]? = some fs[i] := List.getElem?_eq_getElem (by omega)
        have hss : ss[i]? = some ss[i] := List.getElem?_eq_getElem (by omega)
        have h0r : Below w0.heap.size w0 wr := HB.out.trans (hst.bel.mono HB.out.size)
        obtain ⟨b, off, rfl, x0, x1, x2, hbs⟩ := (HR.out.below h0r).f3 i hlt hf hss
        rw [drop_cons fs i _ hf, toldL] at hT
        generalize fs[i] = f at *
        generalize ss[i] = s at *
        obtain ⟨A', n', c', rfl⟩ := HSUB.out i s hss
        by_cases ht : t = 0
        · have ht' : (t : Int) ≤ 0 := by omega
          rw [if_pos ht, List.append_nil] at hT
          subst hT
          have st5 := hst.belo ((Below.refl wr.heap.size wr).alloc (Nat.le_refl _) (.cells #[.int .i64 f.k, .int .i64 f.a, .slice A' n' c'] 58))
          clear hf hss S0 ht h0r hst
          go_upto_region 6 with fail
          obtain ⟨W, hW⟩ : ∃ W, W = wr.alloc (.cells #[.int .i64 f.k, .int .i64 f.a, .slice A' n' c'] 58) := ⟨_, rfl⟩
          rw [← hW] at st5 ⊢
          clear hW x0 x1 x2
          have hst := st5
          clear st5
          obtain ⟨A3, c3, rfl, _, _⟩ := hst.grow.res.form
          have y0 := cell_of_blk hst.blk 0
          have y1 := cell_of_blk hst.blk 1
          have y2 := cell_of_blk hst.blk 2
          have q0 := cell_of_blk hst.res 0
          have q1 := cell_of_blk hst.res 1
          have q2 := cell_of_blk hst.res 2
          have p0 := frozen_of_blk hst.res 0
          have p1 := frozen_of_blk hst.res 1
          have p2 := frozen_of_blk hst.res 2
          have hsz := hst.size
          simp at y0 y1 y2 q0 q1 q2
          have ST := Lib.hid hst
          clear hst
          go_wp2_with fail
          have hf3 := fr_set3 W (w.heap.size + 1) (.int .i64 k) (.int .i64 a) (.slice A3 gs.length c3)
          refine bodyPost_ret (v := .tuple #[.agg #[.int .i64 k, .int .i64 a, .slice A3 gs.length c3], .int .i64 0]) (by simp [results, Try.results57, go_sem, q0, q1, q2]) rfl ?_
          exact ⟨_, rfl, ⟨_, rfl, ST.out.grow.res.fr hf3 (fun b hS e => by omega) (fun b _ hS => by omega)⟩, ST.out.bel.trans (hf3.below ST.out.bel.size (fun b e => by omega))⟩
        · have ht' : ¬ (t : Int) ≤ 0 := by omega
          rw [if_neg ht] at hT
          have hcall := HIH.out i f _ hf hss ((wr.alloc (.cells #[.int .i64 f.k, .int .i64 f.a, .slice A' n' c'] 58)).alloc (.cells #[.int .i64 0, .int .i64 0, .slice none 0 0] 66)) f.k f.a t ((h0r.alloc h0r.size _).alloc (h0r.alloc h0r.size _).size _) (by omega) (by omega)
          rw [f.eta] at hcall
          have htd := told_size f t (by omega)
          generalize toldF f t = g at *
          obtain ⟨g, t'⟩ := g
          simp only at hT htd hcall
          have htt : t' + 1 ≤ t := by have := sizeF_pos f; omega
          clear htd
          have hsz := hst.size
          have hbk2 : Below wr.heap.size wr ((wr.alloc (.cells #[.int .i64 f.k, .int .i64 f.a, .slice A' n' c'] 58)).alloc (.cells #[.int .i64 0, .int .i64 0, .slice none 0 0] 66)) := ((Below.refl _ _).alloc (Nat.le_refl _) _).alloc (by simp) _
          have hnew : ((wr.alloc (.cells #[.int .i64 f.k, .int .i64 f.a, .slice A' n' c'] 58)).alloc (.cells #[.int .i64 0, .int .i64 0, .slice none 0 0] 66)).heap[wr.heap.size + 1]? = some (.cells #[.int .i64 0, .int .i64 0, .slice none 0 0] 66 (0, 0)) := new_at _ _ _ (by simp)
          have HNEW := Lib.hid hnew
          have HT2 := Lib.hid hT
          have ST := Lib.hid hst
          have HBK := Lib.hid hbk2
          clear hT hst hf hss S0 hnew hbk2 h0r
          go_upto_region 9 with (go_at_call 57; refine hcall.mono ?_; rintro e w5 ⟨v5, rfl, ⟨sv5, rfl, hfo⟩, hb5⟩; obtain ⟨A5, c5, rfl, _, _⟩ := hfo.form; have hz5 := (hb5.block (wr.heap.size + 1) (by simp)).trans HNEW.out; have q0 := cell_of_blk hz5 0; have q1 := cell_of_blk hz5 1; have q2 := cell_of_blk hz5 2; have p0 := frozen_of_blk hz5 0; have p1 := frozen_of_blk hz5 1; have p2 := frozen_of_blk hz5 2; simp at q0 q1 q2; have HFO := Lib.hid hfo; have HB5 := Lib.hid hb5; have HZ5 := Lib.hid hz5; clear hfo hb5 hz5)
          have hf3 := fr_set3 w5 (wr.heap.size + 1) (.int .i64 g.k) (.int .i64 g.a) (.slice A5 g.sub.length c5)
          have hW5 := set_blk (set_blk (set_blk HZ5.out 0 (.int .i64 g.k)) 1 (.int .i64 g.a)) 2 (.slice A5 g.sub.length c5)
          have hs5 : wr.heap.size + 1 + 1 ≤ w5.heap.size := by have := HB5.out.size; simpa using this
          have hbW := (HBK.out.trans (HB5.out.mono HBK.out.size)).trans (hf3.below (by omega) (fun b e => by omega))
          have hfW : FOn (fun b => wr.heap.size ≤ b) _ g.sub (.slice A5 g.sub.length c5) := HFO.out.fr hf3 (fun b hS e => by simp at hS; omega) (fun b _ hS => by simp at hS; omega)
          clear q0 q1 q2 p0 p1 p2 hf3 x0 x1 x2 hcall
          obtain ⟨W, hW⟩ : ∃ W, W = (((w5.setCell ⟨wr.heap.size + 1, 0, none⟩ (.int .i64 g.k)).setCell ⟨wr.heap.size + 1, 1, none⟩ (.int .i64 g.a)).setCell ⟨wr.heap.size + 1, 2, none⟩ (.slice A5 g.sub.length c5)) := ⟨_, rfl⟩
          rw [← hW] at hW5 hbW hfW ⊢
          clear hW
          simp at hW5
          have q0 := cell_of_blk hW5 0
          have q1 := cell_of_blk hW5 1
          have q2 := cell_of_blk hW5 2
          have st5 := ST.out.belo hbW
          have y0 := cell_of_blk st5.blk 2
          simp at q0 q1 q2 y0
          have HG := Lib.hid (own_more st5.grow.own (Nat.zero_le _))
          have HBW := Lib.hid hbW
          have HFW := Lib.hid hfW
          clear hbW hfW st5 hW5
          go_wp2_with ((refine appS W 3 #[.int .i64 g.k, .int .i64 g.a, .slice A5 g.sub.length c5] 66 rfl (.tmp 34) (.tmp 36) 64 rfl i0 _ 40 Try.underlying64 hi hz0 hz1 hz2 rfl (by decide) (by decide) rfl v gs.length (fCells gs tt) rfl HG.out rfl (by intro u hu; simp at hu; rcases hu with rfl | rfl | rfl <;> rfl) (by omega) ?_); intro v6 w6 hown6 hfr6 hbk6; have st6 := ST.out.snoc HBW.out HFW.out hfr6 hown6 hbk6; obtain ⟨g6, c6, hv6, _, hg6, _⟩ := owned_form hown6 (by omega); subst hv6; have ST6 := Lib.hid st6; obtain ⟨m6, f6⟩ := ST.out.mid HBW.out hfr6; clear st6 hown6 hfr6 hbk6)
          go_roundw
          case rel => exact ⟨i + 1, t', gs ++ [g], _, _, by omega, by go_num, rfl, by simp; omega, by rw [List.append_assoc]; exact HT2.out, ST6.out⟩
          case measure => simp [intOf]; omega
      · obtain rfl : i = n := by omega
        rw [List.drop_of_length_le (by omega), toldL, List.append_nil] at hT
        subst hT
        obtain ⟨A3, c3, rfl, _, _⟩ := hst.grow.res.form
        have y0 := cell_of_blk hst.blk 0
        have y1 := cell_of_blk hst.blk 1
        have y2 := cell_of_blk hst.blk 2
        have q0 := cell_of_blk hst.res 0
        have q1 := cell_of_blk hst.res 1
        have q2 := cell_of_blk hst.res 2
        have p0 := frozen_of_blk hst.res 0
        have p1 := frozen_of_blk hst.res 1
        have p2 := frozen_of_blk hst.res 2
        have hsz := hst.size
        simp at y0 y1 y2 q0 q1 q2
        have ST := Lib.hid hst
        clear hst
        go_wp2_with fail
        have hf3 := fr_set3 wr (w.heap.size + 1) (.int .i64 k) (.int .i64 a) (.slice A3 gs.length c3)
        refine bodyPost_ret (v := .tuple #[.agg #[.int .i64 k, .int .i64 a, .slice A3 gs.length c3], .int .i64 (t : Int)]) (by simp [results, Try.results57, go_sem, q0, q1, q2]) rfl ?_
        exact ⟨_, rfl, ⟨_, rfl, ST.out.grow.res.fr hf3 (fun b hS e => by omega) (fun b _ hS => by omega)⟩, ST.out.bel.trans (hf3.below ST.out.bel.size (fun b e => by omega))⟩
end Go.Proofs.Ytbcabcdgblmnkaa

namespace Go.Proofs.Ytbcabcdgblmnkaa
open Go.RowKit
set_option linter.unusedVariables false
set_option linter.unusedSimpArgs false

theorem fres_fr {B X : Nat} {w : World} {g : Fm} {A : Option Addr} {c : Nat} (h : FOn (fun b => B ≤ b) w g.sub (.slice A g.sub.length c)) (hX : X < B) (a b d : Value) :
    FOn (fun b => B ≤ b) (((w.setCell ⟨X, 0, none⟩ a).setCell ⟨X, 1, none⟩ b).setCell ⟨X, 2, none⟩ d) g.sub (.slice A g.sub.length c) :=
  h.fr (fr_set3 w X a b d) (fun b hS e => by omega) (fun b _ hS => hS)
set_option maxRecDepth 100000 in
theorem told_top {w0 : World} {fs : List Fm} {sv : Value} (h : FIn w0 fs sv) (w : World) (k a : Int) (hb : Below w0.heap.size w0 w) :
    Calls Try.prog 33 #[.agg #[.int .i64 k, .int .i64 a, sv]] w fun e w' => ∃ v, e = .returned v ∧ FRes w.heap.size w' (toldT (.mk k a fs)) v ∧ Below w.heap.size w w' := by
  have b1 : Below w.heap.size w (((w.alloc (.cells #[.int .i64 k, .int .i64 a, sv] 58)).alloc (.cells #[.int .i64 0, .int .i64 0, .slice none 0 0] 66))) := (((Below.refl _ _).alloc (Nat.le_refl _) _).alloc (by simp) _)
  have h1 := told_any h _ k a 20002 (hb.trans (b1.mono hb.size)) (by omega) (by omega)
  obtain ⟨A, c, rfl, _, _⟩ := h.form
  unfold toldT
  generalize toldF (.mk k a fs) 20002 = g at *
  obtain ⟨g, t⟩ := g
  have hz := new_at (w.alloc (.cells #[.int .i64 k, .int .i64 a, .slice A fs.length c] 58)) (.cells #[.int .i64 0, .int .i64 0, .slice none 0 0] 66) (w.heap.size + 1) (by simp)
  have HZ := Lib.hid hz
  have B1 := Lib.hid b1
  clear hb h b1 hz
  go_enter Try.func33, Try.ntmps33
  go_upto_region 2 with (go_at_call 57; refine h1.mono ?_; rintro e w5 ⟨v5, rfl, ⟨sv5, rfl, hfo⟩, hb5⟩; obtain ⟨A5, c5, rfl, _, _⟩ := hfo.form; have hz5 := (hb5.block (w.heap.size + 1) (by simp)).trans HZ.out; have hs5 : w.heap.size + 1 + 1 ≤ w5.heap.size := (by have := hb5.size; simpa using this); have HFO := Lib.hid hfo; have HB5 := Lib.hid (B1.out.trans (hb5.mono B1.out.size)); have HZ5 := Lib.hid hz5; clear hfo hb5 hz5)
  have hz6 := (alloc_old (.cells #[.int .i64 g.k, .int .i64 g.a, .slice A5 g.sub.length c5] 66) (by omega)).trans HZ5.out
  have hg6 := heap_alloc_new w5 (.cells #[.int .i64 g.k, .int .i64 g.a, .slice A5 g.sub.length c5] 66)
  have hb6 := HB5.out.alloc HB5.out.size (.cells #[.int .i64 g.k, .int .i64 g.a, .slice A5 g.sub.length c5] 66)
  have hf6 := HFO.out.belo ((Below.refl w5.heap.size w5).alloc (Nat.le_refl _) (.cells #[.int .i64 g.k, .int .i64 g.a, .slice A5 g.sub.length c5] 66))
  obtain ⟨W, hW⟩ : ∃ W, W = w5.alloc (.cells #[.int .i64 g.k, .int .i64 g.a, .slice A5 g.sub.length c5] 66) := ⟨_, rfl⟩
  rw [← hW] at hz6 hg6 hb6 hf6 ⊢
  clear hW
  have q0 := cell_of_blk hz6 0
  have q1 := cell_of_blk hz6 1
  have q2 := cell_of_blk hz6 2
  have p0 := frozen_of_blk hz6 0
  have p1 := frozen_of_blk hz6 1
  have p2 := frozen_of_blk hz6 2
  have x0 := cell_of_blk hg6 0
  have x1 := cell_of_blk hg6 1
  have x2 := cell_of_blk hg6 2
  simp at q0 q1 q2 x0 x1 x2
  have HF6 := Lib.hid hf6
  have HB6 := Lib.hid hb6
  have HG6 := Lib.hid hg6
  have HZ6 := Lib.hid hz6
  clear hf6 hb6 hg6 hz6
  go_wp2_with fail
  refine bodyPost_ret (v := .agg #[.int .i64 g.k, .int .i64 g.a, .slice A5 g.sub.length c5]) (by simp [results, Try.results33, go_sem, q0, q1, q2]) rfl ?_
  have hf3 := fr_set3 W (w.heap.size + 1) (.int .i64 g.k) (.int .i64 g.a) (.slice A5 g.sub.length c5)
  exact ⟨_, rfl, ⟨_, rfl, HF6.out.fr hf3 (fun b hS e => by simp at hS; omega) (fun b _ hS => by simp at hS; omega)⟩, HB6.out.trans (hf3.below HB6.out.size (fun b e => by omega))⟩
end Go.Proofs.Ytbcabcdgblmnkaa
