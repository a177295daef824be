/- Contract of package logic: nnf. -/
import Derived.Test.YtdpnififbpoagaaOwnBase
import Derived.Test.YtdpnififbpoagaaFmNnf
import Derived.Deep.DeepCutAuto
namespace Go.Proofs.Ytdpnififbpoagaa
open Go.RowKit
set_option linter.unusedVariables false
set_option linter.unusedSimpArgs false

theorem fr_set3 (w : World) (X : Nat) (a b c : Value) : Fr (fun x => x = X) w (((w.setCell ⟨X, 0, none⟩ a).setCell ⟨X, 1, none⟩ b).setCell ⟨X, 2, none⟩ c) :=
  (((Fr.refl (fun x => x = X) w).setCell ⟨X, 0, none⟩ a (.inl rfl)).setCell ⟨X, 1, none⟩ b (.inl rfl)).setCell ⟨X, 2, none⟩ c (.inl rfl)

theorem nnfL_map (fs : List Fm) (neg : Bool) : nnfL fs neg = fs.map fun f => nnfF f neg := by
  induction fs with
  | nil => rfl
  | cons f fs ih => rw [nnfL, ih]; rfl
theorem nnfL_take (fs : List Fm) (neg : Bool) (i : Nat) (f : Fm) (h : fs[i]? = some f) : nnfL (fs.take (i + 1)) neg = nnfL (fs.take i) neg ++ [nnfF f neg] := by
  rw [nnfL_map, nnfL_map, List.take_add_one, h]
  simp
theorem info_f : (Try.prog.info? 48).map (fun i => (i.zero, i.size, i.bytes)) = some (some (.agg #[.int .i64 0, .int .i64 0, .slice none 0 0]), 3, 40) := by kernel_rfl
/-- no node has more than 20000 parts. -/
inductive Fits : List Fm → Prop
  | mk (fs : List Fm) (hl : fs.length ≤ 20000) (h : ∀ (i : Nat) (f : Fm), fs[i]? = some f → Fits f.sub) : Fits fs

theorem new_at (W : World) (o : Obj) (s : Nat) (h : W.heap.size = s) : (W.alloc o).heap[s]? = some o := h ▸ heap_alloc_new W o
/-- how the world stands while the formula grows: out lies at w.heap.size + 2, the answer's place at w.heap.size + 1. -/
structure NSt (E : TypeId) (w wr : World) (kk aa : Int) (gs : List Fm) (v : Value) (tt : List Value) : Prop where
  blk : wr.heap[w.heap.size + 1 + 1]? = some (.cells #[.int .i64 kk, .int .i64 aa, v] E (0, 0))
  res : wr.heap[w.heap.size + 1]? = some (.cells #[.int .i64 0, .int .i64 0, .slice none 0 0] E (0, 0))
  grow : Grow (w.heap.size + 1 + 1 + 1) (w.heap.size + 1 + 1) wr gs v E tt
  bel : Below w.heap.size w wr
theorem NSt.size {E : TypeId} {w wr : World} {kk aa : Int} {gs : List Fm} {v : Value} {tt : List Value} (h : NSt E w wr kk aa gs v tt) : w.heap.size + 1 + 1 + 1 ≤ wr.heap.size := lt_of_blk h.blk
theorem NSt.belo {E : TypeId} {w wr w' : World} {kk aa : Int} {gs : List Fm} {v : Value} {tt : List Value} (h : NSt E w wr kk aa gs v tt) (hb : Below wr.heap.size wr w') : NSt E w w' kk aa gs v tt :=
  ⟨(hb.block _ (lt_of_blk h.blk)).trans h.blk, (hb.block _ (lt_of_blk h.res)).trans h.res, ⟨own_below h.grow.own hb, h.grow.len, fun j f s hf hs => (h.grow.sub j f s hf hs).belo hb⟩, h.bel.trans (hb.mono h.bel.size)⟩
/-- one more part: the call's world w3, the append's w4. -/
theorem NSt.snoc {E : TypeId} {w wr w3 w4 : World} {kk aa : Int} {gs : List Fm} {v v' : Value} {tt : List Value} {g : Fm} {s : Value} (h : NSt E w wr kk aa gs v tt) (hb : Below wr.heap.size wr w3) (hg : FOn (fun b => wr.heap.size ≤ b) w3 g.sub s)
    (hf : Fr (ownS v) w3 w4) (hown : w4.ownsRow 0 E 3 v' (gs.length + 1) (fCells gs tt ++ [.int .i64 g.k, .int .i64 g.a, s])) (hv : v'.ownBlock = v.ownBlock ∨ v'.ownBlock = some (w3.heap.size + 1)) :
    NSt E w (w4.setCell ⟨w.heap.size + 1 + 1, 2, none⟩ v') kk aa (gs ++ [g]) v' (tt ++ [s]) := by
  have hs := h.size
  have hs3 := hb.size
  have hvb : ∀ b, v'.ownBlock = some b → w.heap.size + 1 + 1 + 1 ≤ b := fun b hb' => by
    rcases hv with e | e
    · exact (own_lt h.grow.own (e ▸ hb')).1
    · rw [e] at hb'; injection hb' with hb'; omega
  have hnb : ∀ x, x < w.heap.size + 1 + 1 + 1 → ¬ ownS v x := fun x hx e => by have := (own_lt h.grow.own e).1; omega
  have g4 := h.grow.snoc (lt_of_blk h.blk) hs hb hg hf (own_base hown hvb) (by
    rcases hv with e | e
    · exact .inl e
    · exact .inr fun b hb' => by rw [e] at hb'; injection hb' with hb'; omega)
  have b4 : w4.heap[w.heap.size + 1 + 1]? = some (.cells #[.int .i64 kk, .int .i64 aa, v] E (0, 0)) := (hf.block _ (by omega) (hnb _ (by omega))).trans ((hb.block _ (lt_of_blk h.blk)).trans h.blk)
  have r4 : w4.heap[w.heap.size + 1]? = some (.cells #[.int .i64 0, .int .i64 0, .slice none 0 0] E (0, 0)) := (hf.block _ (by omega) (hnb _ (by omega))).trans ((hb.block _ (lt_of_blk h.res)).trans h.res)
  have fx : Fr (fun x => x = w.heap.size + 1 + 1) w4 (w4.setCell ⟨w.heap.size + 1 + 1, 2, none⟩ v') := (Fr.refl _ w4).setCell _ _ (.inl rfl)
  have bw3 : Below w.heap.size w w3 := h.bel.trans (hb.mono h.bel.size)
  have bw4 : Below w.heap.size w w4 := bw3.trans (hf.below bw3.size (fun b e => by have := (own_lt h.grow.own e).1; omega))
  refine ⟨set_blk b4 2 v', (set_far (by simp) _).trans r4, g4.fr fx (fun b _ e => .inr e) (fun e => by have := hvb _ e; omega), bw4.trans (fx.below bw4.size (fun b e => by omega))⟩

theorem NSt.mid {E : TypeId} {w wr w3 w4 : World} {kk aa : Int} {gs : List Fm} {v : Value} {tt : List Value} (h : NSt E w wr kk aa gs v tt) (hb : Below wr.heap.size wr w3) (hf : Fr (ownS v) w3 w4) :
    w4.cell? ⟨w.heap.size + 1 + 1, 2, none⟩ = some v ∧ w4.frozen? ⟨w.heap.size + 1 + 1, 2, none⟩ = false := by
  have hs := h.size
  have hs3 := hb.size
  have hnb : ∀ x, x < w.heap.size + 1 + 1 + 1 → ¬ ownS v x := fun x hx e => by have := (own_lt h.grow.own e).1; omega
  have b4 : w4.heap[w.heap.size + 1 + 1]? = some (.cells #[.int .i64 kk, .int .i64 aa, v] E (0, 0)) := (hf.block _ (by omega) (hnb _ (by omega))).trans ((hb.block _ (lt_of_blk h.blk)).trans h.blk)
  exact ⟨cell_of_blk b4 2, frozen_of_blk b4 2⟩

set_option maxRecDepth 100000 in
set_option maxHeartbeats 4000000 in
theorem nnf_fm {w0 : World} {fs : List Fm} {sv : Value} (h : FIn w0 fs sv) (n : Int) : ∀ (w : World) (k a : Int) (neg : Bool), Below w0.heap.size w0 w → Fits fs → shapeF (.mk k a fs) n = true →
    Calls Try.prog 56 #[.agg #[.int .i64 k, .int .i64 a, sv], .bool neg] w fun e w' => ∃ v, e = .returned v ∧ FRes w.heap.size w' (nnfF (.mk k a fs) neg) v ∧ Below w.heap.size w w' := by
  induction h with
  | mk A m c fs ss hl hs hnc hc hr hsub ih =>
    intro w k a neg hb hfit hsh
    obtain ⟨_, hf20, hfs⟩ := hfit
    rw [shapeF, hl] at hsh
    rw [nnfF]
    have HIH := Lib.hid ih
    have hfm : ∀ (i : Nat) (s : Value), ss[i]? = some s → ∃ A n c, s = .slice A n c := fun i s hi => by
      have hlt := (List.getElem?_eq_some_iff.1 hi).1
      obtain ⟨A', c', e, _⟩ := (hsub i _ s (List.getElem?_eq_getElem (by omega)) hi).form
      exact ⟨A', _, c', e⟩
    have HSUB := Lib.hid hfm
    clear ih hsub hfm
    by_cases k1 : k = 1
    · subst k1
      rw [if_pos rfl] at hsh
      simp only [Bool.and_eq_true, decide_eq_true_eq] at hsh
      obtain ⟨ha, han, hm⟩ := hsh
      rw [if_neg (by decide), if_pos rfl]
      clear HIH HSUB hr hb
      cases neg with
      | false =>
        rw [if_neg (by simp)]
        go_enter Try.func56, Try.ntmps56
        go_wp2_with fail
        refine bodyPost_ret (v := .agg #[.int .i64 1, .int .i64 a, .slice none 0 0]) (by simp [results, Try.results56, go_sem]) rfl ?_
        exact ⟨_, rfl, ⟨_, rfl, FOn.nil _ _⟩, (((Below.refl _ _).alloc (Nat.le_refl _) _).alloc (by simp) _).alloc (by simp; omega) _⟩
      | true =>
        rw [if_pos rfl]
        go_enter Try.func56, Try.ntmps56
        go_wp2_with fail
        refine bodyPost_ret (v := .agg #[.int .i64 2, .int .i64 0, .slice (some ⟨w.heap.size + 1 + 1 + 1, 0, none⟩) 1 1]) (by simp [results, Try.results56, go_sem]) rfl ?_
        refine ⟨_, rfl, ⟨_, rfl, FOn.mk _ 1 1 [.mk 1 a []] [.slice none 0 0] rfl rfl (Nat.le_refl _) (by unfold maxLen; omega) ?_ (fun b o _ e => by injection e with e; injection e with e _; omega) (fun i f s hf hs => ?_)⟩, ((((Below.refl _ _).alloc (Nat.le_refl _) _).alloc (by simp) _).alloc (by simp; omega) _).alloc (by simp; omega) _⟩
        · refine ⟨rfl, fun _ => ⟨_, 0, rfl, fun j u hu => ?_⟩⟩
          rw [Nat.zero_add]
          refine Eq.trans (cell_of_blk (cs := #[.int .i64 1, .int .i64 a, .slice none 0 0]) (t := 48) ?_ j) (by simpa [fCells, Fm.k, Fm.a] using hu)
          have := fun (W : World) o (h : W.heap.size = w.heap.size + 1 + 1 + 1) => h ▸ heap_alloc_new W o
          exact this _ _ (by simp)
        · cases i with
          | zero =>
            simp only [List.getElem?_cons_zero, Option.some.injEq] at hf hs
            subst hf hs
            exact FOn.nil _ _
          | succ i => simp at hf
    rw [if_neg k1] at hsh
    by_cases k2 : k = 2
    · subst k2
      rw [if_neg (by decide), if_pos rfl] at hsh
      simp only [Bool.and_eq_true, decide_eq_true_eq] at hsh
      obtain ⟨hm, hsh⟩ := hsh
      subst hm
      rw [if_pos rfl]
      obtain ⟨f, rfl⟩ : ∃ f, fs = [f] := List.length_eq_one_iff.1 hl
      obtain ⟨s, rfl⟩ : ∃ s, ss = [s] := List.length_eq_one_iff.1 hs
      obtain ⟨b, off, rfl, x0, x1, x2, hbs⟩ := (hr.below hb).f3 0 (by omega) (f := f) (s := s) rfl rfl
      simp only [Nat.zero_mul, Nat.add_zero] at x0 x1 x2
      obtain ⟨A', n', c', rfl⟩ := HSUB.out 0 s rfl
      have h01 : Below w0.heap.size w0 (w.alloc (.cells #[.int .i64 2, .int .i64 a, .slice (some ⟨b, off, none⟩) 1 c] 48)) := hb.alloc hb.size _
      have h02 : Below w0.heap.size w0 ((w.alloc (.cells #[.int .i64 2, .int .i64 a, .slice (some ⟨b, off, none⟩) 1 c] 48)).alloc (.cells #[.int .i64 0, .int .i64 0, .slice none 0 0] 48)) := h01.alloc h01.size _
      have b2 : Below w.heap.size w ((w.alloc (.cells #[.int .i64 2, .int .i64 a, .slice (some ⟨b, off, none⟩) 1 c] 48)).alloc (.cells #[.int .i64 0, .int .i64 0, .slice none 0 0] 48)) := ((Below.refl _ _).alloc (Nat.le_refl _) _).alloc (by simp) _
      have hz : ((w.alloc (.cells #[.int .i64 2, .int .i64 a, .slice (some ⟨b, off, none⟩) 1 c] 48)).alloc (.cells #[.int .i64 0, .int .i64 0, .slice none 0 0] 48)).heap[w.heap.size + 1]? = some (.cells #[.int .i64 0, .int .i64 0, .slice none 0 0] 48 (0, 0)) := by
        have := fun (W : World) o (h : W.heap.size = w.heap.size + 1) => h ▸ heap_alloc_new W o
        exact this _ _ (by simp)
      have hE := HIH.out 0 f _ rfl rfl _ f.k f.a (!neg) h02 (hfs 0 f rfl) (by rw [f.eta]; exact shapeL_get [f] n hsh 0 f rfl)
      rw [f.eta] at hE
      rw [nnfH]
      generalize nnfF f (!neg) = g at *
      have HE := Lib.hid hE
      have HB2 := Lib.hid b2
      have HZ := Lib.hid hz
      clear hr HIH HSUB h01 h02 b2 hE hz hb
      go_enter Try.func56, Try.ntmps56
      go_wp2_with (go_at_call 56; refine HE.out.mono ?_; rintro e w3 ⟨v, rfl, ⟨sv', rfl, hfo⟩, hb3⟩; obtain ⟨A3, c3, rfl, _, _⟩ := hfo.form; have hz3 := (hb3.block (w.heap.size + 1) (by simp)).trans HZ.out; have q0 := cell_of_blk hz3 0; have q1 := cell_of_blk hz3 1; have q2 := cell_of_blk hz3 2; have p0 := frozen_of_blk hz3 0; have p1 := frozen_of_blk hz3 1; have p2 := frozen_of_blk hz3 2; simp at q0 q1 q2; have HFO := Lib.hid hfo; have HB3 := Lib.hid hb3; clear hfo hb3 hz3)
      have h3 : w.heap.size + 1 + 1 ≤ w3.heap.size := by have := HB3.out.size; simpa using this
      have hbe : Below w.heap.size w w3 := HB2.out.trans (HB3.out.mono (by simp; omega))
      have hf3 := fr_set3 w3 (w.heap.size + 1) (.int .i64 g.k) (.int .i64 g.a) (.slice A3 g.sub.length c3)
      refine bodyPost_ret (v := .agg #[.int .i64 g.k, .int .i64 g.a, .slice A3 g.sub.length c3]) (by simp [results, Try.results56, go_sem, q0, q1, q2]) rfl ?_
      exact ⟨_, rfl, ⟨_, rfl, HFO.out.fr hf3 (fun b hS e => by simp at hS; omega) (fun b _ hS => by simp at hS; omega)⟩, hbe.trans (hf3.below (by omega) (fun b e => by omega))⟩
    rw [if_neg k2]
    rw [if_neg k1]
    have hL : shapeL fs n = true := by
      by_cases k5 : k = 5 ∨ k = 6
      · rw [if_pos k5] at hsh
        have hm : m = 0 := by simpa using hsh
        have : fs = [] := List.eq_nil_of_length_eq_zero (by omega)
        subst this
        rfl
      · rw [if_neg k5, if_neg k2] at hsh
        by_cases k3 : k = 3 ∨ k = 4
        · rw [if_pos k3] at hsh; exact hsh
        · rw [if_neg k3] at hsh; cases hsh
    clear hsh
    have hT := turned_any k
    obtain ⟨i0, hi, hz0, hz1, hz2⟩ := info_parts info_f
    have hE := fun i f s hf hs W (hW : Below w0.heap.size w0 W) => HIH.out i f s hf hs W f.k f.a neg hW (hfs i f hf) (by rw [f.eta]; exact shapeL_get fs n hL i f hf)
    have HE := Lib.hid hE
    have HR := Lib.hid hr
    have HB := Lib.hid hb
    have HFS := Lib.hid hfs
    clear hr hb hE HIH hfs hL
    have e1 : (k == 1) = false := by simpa using k1
    have e2 : (k == 2) = false := by simpa using k2
    cases neg with
    | false =>
      rw [if_neg (by simp)]
      clear hT
      go_enter Try.func56, Try.ntmps56
      go_wp2_with fail
      have st0 : NSt 48 w (((w.alloc (.cells #[.int .i64 k, .int .i64 a, .slice A m c] 48)).alloc (.cells #[.int .i64 0, .int .i64 0, .slice none 0 0] 48)).alloc (.cells #[.int .i64 k, .int .i64 0, .slice none 0 0] 48)) k 0 (nnfL (fs.take 0) false) (.slice none 0 0) [] := ⟨new_at _ _ _ (by simp), (alloc_old _ (by simp)).trans (new_at _ _ _ (by simp)), Grow.nil _ _ _ _, (((Below.refl _ _).alloc (Nat.le_refl _) _).alloc (by simp) _).alloc (by simp; omega) _⟩
      have S0 := Lib.hid st0
      clear st0
      go_loopw [41] (fun x wr => ∃ (i : Nat) (v : Value) (tt : List Value), i ≤ m ∧ x = .int .i64 i ∧ NSt 48 w wr k 0 (nnfL (fs.take i) false) v tt) (fun x _ => m - (intOf x).toNat)
      case atStart => exact ⟨0, _, _, Nat.zero_le _, rfl, S0.out⟩
      case round =>
        obtain ⟨i, v, tt, hi', rfl, hst⟩ := hrel
        by_cases hlt : i < m
        · have hf : fs[i]? = some fs[i] := List.getElem?_eq_getElem (by omega)
          have hss : ss[i]? = some ss[i] := List.getElem?_eq_getElem (by omega)
          have h0r : Below w0.heap.size w0 wr := HB.out.trans (hst.bel.mono HB.out.size)
          obtain ⟨b, off, rfl, x0, x1, x2, hbs⟩ := (HR.out.below h0r).f3 i hlt hf hss
          have htk := nnfL_take fs false i _ hf
          have hgl : (nnfL (fs.take i) false).length = i := by rw [nnfL_map]; simp; omega
          generalize fs[i] = f at *
          generalize ss[i] = s at *
          obtain ⟨A', n', c', rfl⟩ := HSUB.out i s hss
          have hcall := HE.out i f _ hf hss
          rw [f.eta] at hcall
          generalize nnfF f false = g at *
          generalize nnfL (fs.take i) false = gs at *
          have st1 := hst.belo ((Below.refl wr.heap.size wr).alloc (Nat.le_refl _) (.cells #[.int .i64 f.k, .int .i64 f.a, .slice A' n' c'] 48))
          have h0s : Below w0.heap.size w0 (wr.alloc (.cells #[.int .i64 f.k, .int .i64 f.a, .slice A' n' c'] 48)) := h0r.alloc h0r.size _
          have hcells := heap_alloc_new wr (.cells #[.int .i64 f.k, .int .i64 f.a, .slice A' n' c'] 48)
          have hsz := hst.size
          have hwrs : wr.heap.size < (wr.alloc (.cells #[.int .i64 f.k, .int .i64 f.a, .slice A' n' c'] 48)).heap.size := by simp
          have HTK := Lib.hid htk
          have HC := Lib.hid hcall
          clear hcall htk hst hf hss h0r S0
          go_upto_region 15 with fail
          obtain ⟨W, hW⟩ : ∃ W, W = wr.alloc (.cells #[.int .i64 f.k, .int .i64 f.a, .slice A' n' c'] 48) := ⟨_, rfl⟩
          rw [← hW] at st1 h0s hcells hwrs ⊢
          clear hW x0 x1 x2
          have y0 := cell_of_blk st1.blk 2
          have z0 := cell_of_blk hcells 0
          have z1 := cell_of_blk hcells 1
          have z2 := cell_of_blk hcells 2
          simp at y0 z0 z1 z2
          have ST1 := Lib.hid st1
          have H0S := Lib.hid h0s
          clear st1 h0s hcells
          have hown := ST1.out.grow.own
          rw [hgl] at hown
          have HOWN := Lib.hid (own_more hown (Nat.zero_le _))
          clear hown
          have hlt20 : (i + 1) * 40 ≤ 140737488355328 := by omega
          go_region_law (first | (refine stepS _ 3 #[.int .i64 g.k, .int .i64 g.a, .slice A5 g.sub.length c5] 48 rfl (.tmp 46) (.tmp 50) 46 rfl i0 _ 40 Try.underlying46 hi hz0 hz1 hz2 rfl (by decide) (by decide) rfl v i (fCells gs tt) (by simp [Act.eval, Act.put]) (own_below HOWN.out hb5') (by simp [Act.eval, Act.put]) (by intro u hu; simp at hu; rcases hu with rfl | rfl | rfl <;> rfl) hlt20 ?_; intro v6 w6 hown6 hfr6 hbk6; have st6 := ST1.out.snoc hb5' hfo (hfr6) (by rw [hgl]; exact hown6) hbk6; obtain ⟨g6, c6, hv6, _, hg6, _⟩ := owned_form hown6 (by omega); subst hv6; have ST6 := Lib.hid st6; obtain ⟨m6, f6⟩ := ST1.out.mid hb5' hfr6; clear st6) | (go_simp; go_at_call 56; refine (HC.out _ (below_drewA H0S.out)).mono ?_; rintro e w5 ⟨v5, rfl, ⟨sv5, rfl, hfo⟩, hb5⟩; obtain ⟨A5, c5, rfl, _, _⟩ := hfo.form; have hb5' := below_drew' hb5; have y5 := (hb5'.cell (p := ⟨w.heap.size + 1 + 1, 2, none⟩) (by have := ST1.out.size; simp; omega)).trans y0; have y6 := (World.cell?_alloc_lt w5 (.cells #[.int .i64 g.k, .int .i64 g.a, .slice A5 g.sub.length c5] 48) ⟨w.heap.size + 1 + 1, 2, none⟩ (by have := hb5'.size; have := ST1.out.size; simp; omega)).trans y5))
          all_goals
            go_wp2_with fail
            go_roundw
            case rel => exact ⟨i + 1, _, _, by omega, by go_num, by rw [HTK.out]; exact ST6.out⟩
            case measure => simp [intOf]; omega
        · obtain rfl : i = m := by omega
          rw [List.take_of_length_le (by omega)] at hst
          obtain ⟨A3, c3, rfl, _, _⟩ := hst.grow.res.form
          have y0 := cell_of_blk hst.blk 0
          have y1 := cell_of_blk hst.blk 1
          have y2 := cell_of_blk hst.blk 2
          have q0 := cell_of_blk hst.res 0
          have q1 := cell_of_blk hst.res 1
          have q2 := cell_of_blk hst.res 2
          have p0 := frozen_of_blk hst.res 0
          have p1 := frozen_of_blk hst.res 1
          have p2 := frozen_of_blk hst.res 2
          have hsz := hst.size
          simp at y0 y1 y2 q0 q1 q2
          have ST := Lib.hid hst
          clear hst S0
          go_wp2_with fail
          have hf3 := fr_set3 wr (w.heap.size + 1) (.int .i64 k) (.int .i64 0) (.slice A3 (nnfL fs false).length c3)
          refine bodyPost_ret (v := .agg #[.int .i64 k, .int .i64 0, .slice A3 (nnfL fs false).length c3]) (by simp [results, Try.results56, go_sem, q0, q1, q2]) rfl ?_
          exact ⟨_, rfl, ⟨_, rfl, ST.out.grow.res.fr hf3 (fun b hS e => by omega) (fun b _ hS => by omega)⟩, ST.out.bel.trans (hf3.below ST.out.bel.size (fun b e => by omega))⟩
    | true =>
      rw [if_pos rfl]
      generalize turnK k = kk at *
      go_enter Try.func56, Try.ntmps56
      go_wp2_with (go_at_call 71; refine (hT _).mono ?_; rintro e w' ⟨rfl, hw⟩; obtain rfl := hw.symm)
      clear hT
      have st0 : NSt 48 w (((w.alloc (.cells #[.int .i64 k, .int .i64 a, .slice A m c] 48)).alloc (.cells #[.int .i64 0, .int .i64 0, .slice none 0 0] 48)).alloc (.cells #[.int .i64 kk, .int .i64 0, .slice none 0 0] 48)) kk 0 (nnfL (fs.take 0) true) (.slice none 0 0) [] := ⟨new_at _ _ _ (by simp), (alloc_old _ (by simp)).trans (new_at _ _ _ (by simp)), Grow.nil _ _ _ _, (((Below.refl _ _).alloc (Nat.le_refl _) _).alloc (by simp) _).alloc (by simp; omega) _⟩
      have S0 := Lib.hid st0
      clear st0
      go_loopw [41] (fun x wr => ∃ (i : Nat) (v : Value) (tt : List Value), i ≤ m ∧ x = .int .i64 i ∧ NSt 48 w wr kk 0 (nnfL (fs.take i) true) v tt) (fun x _ => m - (intOf x).toNat)
      case atStart => exact ⟨0, _, _, Nat.zero_le _, rfl, S0.out⟩
      case round =>
        obtain ⟨i, v, tt, hi', rfl, hst⟩ := hrel
        by_cases hlt : i < m
        · have hf : fs[i]? = some fs[i] := List.getElem?_eq_getElem (by omega)
          have hss : ss[i]? = some ss[i] := List.getElem?_eq_getElem (by omega)
          have h0r : Below w0.heap.size w0 wr := HB.out.trans (hst.bel.mono HB.out.size)
          obtain ⟨b, off, rfl, x0, x1, x2, hbs⟩ := (HR.out.below h0r).f3 i hlt hf hss
          have htk := nnfL_take fs true i _ hf
          have hgl : (nnfL (fs.take i) true).length = i := by rw [nnfL_map]; simp; omega
          generalize fs[i] = f at *
          generalize ss[i] = s at *
          obtain ⟨A', n', c', rfl⟩ := HSUB.out i s hss
          have hcall := HE.out i f _ hf hss
          rw [f.eta] at hcall
          generalize nnfF f true = g at *
          generalize nnfL (fs.take i) true = gs at *
          have st1 := hst.belo ((Below.refl wr.heap.size wr).alloc (Nat.le_refl _) (.cells #[.int .i64 f.k, .int .i64 f.a, .slice A' n' c'] 48))
          have h0s : Below w0.heap.size w0 (wr.alloc (.cells #[.int .i64 f.k, .int .i64 f.a, .slice A' n' c'] 48)) := h0r.alloc h0r.size _
          have hcells := heap_alloc_new wr (.cells #[.int .i64 f.k, .int .i64 f.a, .slice A' n' c'] 48)
          have hsz := hst.size
          have hwrs : wr.heap.size < (wr.alloc (.cells #[.int .i64 f.k, .int .i64 f.a, .slice A' n' c'] 48)).heap.size := by simp
          have HTK := Lib.hid htk
          have HC := Lib.hid hcall
          clear hcall htk hst hf hss h0r S0
          go_upto_region 15 with fail
          obtain ⟨W, hW⟩ : ∃ W, W = wr.alloc (.cells #[.int .i64 f.k, .int .i64 f.a, .slice A' n' c'] 48) := ⟨_, rfl⟩
          rw [← hW] at st1 h0s hcells hwrs ⊢
          clear hW x0 x1 x2
          have y0 := cell_of_blk st1.blk 2
          have z0 := cell_of_blk hcells 0
          have z1 := cell_of_blk hcells 1
          have z2 := cell_of_blk hcells 2
          simp at y0 z0 z1 z2
          have ST1 := Lib.hid st1
          have H0S := Lib.hid h0s
          clear st1 h0s hcells
          have hown := ST1.out.grow.own
          rw [hgl] at hown
          have HOWN := Lib.hid (own_more hown (Nat.zero_le _))
          clear hown
          have hlt20 : (i + 1) * 40 ≤ 140737488355328 := by omega
          go_region_law (first | (refine stepS _ 3 #[.int .i64 g.k, .int .i64 g.a, .slice A5 g.sub.length c5] 48 rfl (.tmp 46) (.tmp 50) 46 rfl i0 _ 40 Try.underlying46 hi hz0 hz1 hz2 rfl (by decide) (by decide) rfl v i (fCells gs tt) (by simp [Act.eval, Act.put]) (own_below HOWN.out hb5') (by simp [Act.eval, Act.put]) (by intro u hu; simp at hu; rcases hu with rfl | rfl | rfl <;> rfl) hlt20 ?_; intro v6 w6 hown6 hfr6 hbk6; have st6 := ST1.out.snoc hb5' hfo (hfr6) (by rw [hgl]; exact hown6) hbk6; obtain ⟨g6, c6, hv6, _, hg6, _⟩ := owned_form hown6 (by omega); subst hv6; have ST6 := Lib.hid st6; obtain ⟨m6, f6⟩ := ST1.out.mid hb5' hfr6; clear st6) | (go_simp; go_at_call 56; refine (HC.out _ (below_drewA H0S.out)).mono ?_; rintro e w5 ⟨v5, rfl, ⟨sv5, rfl, hfo⟩, hb5⟩; obtain ⟨A5, c5, rfl, _, _⟩ := hfo.form; have hb5' := below_drew' hb5; have y5 := (hb5'.cell (p := ⟨w.heap.size + 1 + 1, 2, none⟩) (by have := ST1.out.size; simp; omega)).trans y0; have y6 := (World.cell?_alloc_lt w5 (.cells #[.int .i64 g.k, .int .i64 g.a, .slice A5 g.sub.length c5] 48) ⟨w.heap.size + 1 + 1, 2, none⟩ (by have := hb5'.size; have := ST1.out.size; simp; omega)).trans y5))
          all_goals
            go_wp2_with fail
            go_roundw
            case rel => exact ⟨i + 1, _, _, by omega, by go_num, by rw [HTK.out]; exact ST6.out⟩
            case measure => simp [intOf]; omega
        · obtain rfl : i = m := by omega
          rw [List.take_of_length_le (by omega)] at hst
          obtain ⟨A3, c3, rfl, _, _⟩ := hst.grow.res.form
          have y0 := cell_of_blk hst.blk 0
          have y1 := cell_of_blk hst.blk 1
          have y2 := cell_of_blk hst.blk 2
          have q0 := cell_of_blk hst.res 0
          have q1 := cell_of_blk hst.res 1
          have q2 := cell_of_blk hst.res 2
          have p0 := frozen_of_blk hst.res 0
          have p1 := frozen_of_blk hst.res 1
          have p2 := frozen_of_blk hst.res 2
          have hsz := hst.size
          simp at y0 y1 y2 q0 q1 q2
          have ST := Lib.hid hst
          clear hst S0
          go_wp2_with fail
          have hf3 := fr_set3 wr (w.heap.size + 1) (.int .i64 kk) (.int .i64 0) (.slice A3 (nnfL fs true).length c3)
          refine bodyPost_ret (v := .agg #[.int .i64 kk, .int .i64 0, .slice A3 (nnfL fs true).length c3]) (by simp [results, Try.results56, go_sem, q0, q1, q2]) rfl ?_
          exact ⟨_, rfl, ⟨_, rfl, ST.out.grow.res.fr hf3 (fun b hS e => by omega) (fun b _ hS => by omega)⟩, ST.out.bel.trans (hf3.below ST.out.bel.size (fun b e => by omega))⟩
end Go.Proofs.Ytdpnififbpoagaa
