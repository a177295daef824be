/- Contract of the reference of formulas: Nnf, at the form that the program answers. -/
import Derived.Test.YtdpnififbpoagaaFmNnf3
import Derived.Test.YtdpnififbpoagaaFmChecks
namespace Go.Proofs.Ytdpnififbpoagaa
open Go.RowKit
set_option linter.unusedVariables false
set_option linter.unusedSimpArgs false

theorem FIn.opn {w : World} {fs : List Fm} {v : Value} (h : FIn w fs v) : ∃ A c ss, v = .slice A fs.length c ∧ ss.length = fs.length ∧ Rd w 3 A fs.length (fCells fs ss) ∧ fs.length ≤ c ∧ c ≤ maxLen ∧
    ∀ (i : Nat) (f : Fm) (s : Value), fs[i]? = some f → ss[i]? = some s → FIn w f.sub s := by
  cases h with
  | mk A n c fs ss hl hs hnc hc hr hsub => subst hl; exact ⟨A, c, ss, rfl, hs, hr, hnc, hc, hsub⟩
theorem below_box2 {w W : World} {o o' : Obj} (hb : Below ((w.alloc o).alloc o').heap.size ((w.alloc o).alloc o') W) : Below w.heap.size w W :=
  (((Below.refl w.heap.size w).alloc (Nat.le_refl _) o).alloc (by simp) o').trans (hb.mono (by simp; omega))

theorem rnnf_lit (w : World) (a : Int) (A A' : Option Addr) (c c' : Nat) : Calls Try.prog 31 #[.agg #[.int .i64 1, .int .i64 a, .slice A 0 c], .agg #[.int .i64 1, .int .i64 a, .slice A' 0 c'], .bool false] w fun e w' => e = .returned (.bool true) ∧ Below w.heap.size w w' := by
  go_enter Try.func31, Try.ntmps31
  go_wp2_with fail
  go_ret
  exact ⟨by simp, ((Below.refl _ _).alloc (Nat.le_refl _) _).alloc (by simp) _⟩

set_option maxRecDepth 100000 in
set_option maxHeartbeats 4000000 in
theorem rnnf_any {w0 : World} {fs : List Fm} {sv : Value} (h : FIn w0 fs sv) (n : Int) : ∀ (w : World) (k a : Int) (neg : Bool) (g : Fm) (gv : Value), g = nnfF (.mk k a fs) neg → FIn w0 g.sub gv → Below w0.heap.size w0 w → shapeF (.mk k a fs) n = true →
    Calls Try.prog 31 #[.agg #[.int .i64 k, .int .i64 a, sv], .agg #[.int .i64 g.k, .int .i64 g.a, gv], .bool neg] w fun e w' => e = .returned (.bool true) ∧ Below w.heap.size w w' := by
  induction h with
  | mk A m c fs ss hl hs hnc hc hr hsub ih =>
    intro w k a neg g gv hg hgi hb hsh
    rw [shapeF, hl] at hsh
    unfold maxLen at hc
    have hfm := FIn.forms hl hs hsub
    have HSUB := Lib.hid hfm
    have HIH := Lib.hid ih
    have HR := Lib.hid hr
    have HB0 := Lib.hid hb
    clear ih hr hsub hfm
    by_cases k1 : k = 1
    · subst k1
      rw [if_pos rfl] at hsh
      simp only [Bool.and_eq_true, decide_eq_true_eq] at hsh
      obtain ⟨ha, han, hm⟩ := hsh
      subst hm
      cases neg with
      | false =>
        rw [nnfF, if_neg (by decide), if_pos rfl, if_neg (by simp)] at hg
        subst hg
        obtain ⟨A2, c2, rfl, _, _⟩ := hgi.form
        exact rnnf_lit w a A A2 c c2
      | true =>
        rw [nnfF, if_neg (by decide), if_pos rfl, if_pos rfl] at hg
        subst hg
        obtain ⟨A2, c2, ss2, rfl, hs2, hr2, _, _, hsub2⟩ := hgi.opn
        simp only [Fm.sub, List.length_singleton, Fm.k, Fm.a] at *
        obtain ⟨s, rfl⟩ : ∃ s, ss2 = [s] := List.length_eq_one_iff.1 hs2
        obtain ⟨A3, c3, rfl, _, _⟩ := (hsub2 0 _ s rfl rfl).form
        have hb1 := hb.alloc hb.size (.cells #[.int .i64 1, .int .i64 a, .slice A 0 c] 57)
        have hb2 := hb1.alloc hb1.size (.cells #[.int .i64 2, .int .i64 0, .slice A2 1 c2] 57)
        obtain ⟨b, off, rfl, x0, x1, x2, hbs⟩ := (hr2.below hb2).f3 0 (by omega) (f := .mk 1 a []) (s := .slice A3 0 c3) rfl rfl
        simp only [Nat.zero_mul, Nat.add_zero, Fm.k, Fm.a] at x0 x1 x2
        have hE := fun W => rnnf_lit W a A A3 c c3
        have HE := Lib.hid hE
        clear hE hr2 hsub2 hgi HIH HSUB HR HB0 hb hb1 hb2 hbs
        obtain ⟨W, hW⟩ : ∃ W, W = (w.alloc (.cells #[.int .i64 1, .int .i64 a, .slice A 0 c] 57)).alloc (.cells #[.int .i64 2, .int .i64 0, .slice (some ⟨b, off, none⟩) 1 c2] 57) := ⟨_, rfl⟩
        have bW : Below w.heap.size w W := by rw [hW]; exact ((Below.refl _ _).alloc (Nat.le_refl _) _).alloc (by simp) _
        have y0 : W.cell? ⟨w.heap.size, 0, none⟩ = some (.int .i64 1) := by rw [hW]; simp
        have y1 : W.cell? ⟨w.heap.size, 1, none⟩ = some (.int .i64 a) := by rw [hW]; simp
        have y2 : W.cell? ⟨w.heap.size, 2, none⟩ = some (.slice A 0 c) := by rw [hW]; simp
        have z0 : W.cell? ⟨w.heap.size + 1, 0, none⟩ = some (.int .i64 2) := by rw [hW]; simp
        have z1 : W.cell? ⟨w.heap.size + 1, 1, none⟩ = some (.int .i64 0) := by rw [hW]; simp
        have z2 : W.cell? ⟨w.heap.size + 1, 2, none⟩ = some (.slice (some ⟨b, off, none⟩) 1 c2) := by rw [hW]; simp
        rw [← hW] at x0 x1 x2
        have HX := Lib.hid (And.intro x0 (And.intro x1 (And.intro x2 (And.intro y0 (And.intro y1 (And.intro y2 (And.intro z0 (And.intro z1 z2))))))))
        have BW := Lib.hid bW
        clear x0 x1 x2 y0 y1 y2 z0 z1 z2 bW
        go_enter Try.func31, Try.ntmps31
        go_upto_region 6 with fail
        rw [← hW]
        obtain ⟨x0, x1, x2, y0, y1, y2, z0, z1, z2⟩ := HX.out
        clear hW HX
        go_still_tail 20, (by kernel_rfl)
        change wpList _ _ _ _ _ W.drew
        go_wp2_with (go_at_call 31; refine (HE.out _).mono ?_; rintro e w1 ⟨rfl, hb1⟩)
        go_ret
        exact ⟨rfl, BW.out.trans ((below_drew' hb1).mono BW.out.size)⟩
    rw [if_neg k1] at hsh
    by_cases k2 : k = 2
    · subst k2
      rw [if_neg (by decide), if_pos rfl] at hsh
      simp only [Bool.and_eq_true, decide_eq_true_eq] at hsh
      obtain ⟨hm, hsh⟩ := hsh
      subst hm
      obtain ⟨f, rfl⟩ : ∃ f, fs = [f] := List.length_eq_one_iff.1 hl
      obtain ⟨s, rfl⟩ : ∃ s, ss = [s] := List.length_eq_one_iff.1 hs
      rw [nnfF, if_pos rfl, nnfH] at hg
      obtain ⟨A2, c2, hgv, _, _⟩ := hgi.form
      have hb1 := hb.alloc hb.size (.cells #[.int .i64 2, .int .i64 a, .slice A 1 c] 57)
      have hb2 := hb1.alloc hb1.size (.cells #[.int .i64 g.k, .int .i64 g.a, gv] 57)
      obtain ⟨b, off, rfl, x0, x1, x2, hbs⟩ := (HR.out.below hb2).f3 0 (by omega) (f := f) (s := s) rfl rfl
      simp only [Nat.zero_mul, Nat.add_zero] at x0 x1 x2
      obtain ⟨A', n', c', rfl⟩ := HSUB.out 0 s rfl
      have hE := fun W (hW : Below w0.heap.size w0 W) => HIH.out 0 f _ rfl rfl W f.k f.a (!neg) g gv (by rw [f.eta]; exact hg) hgi hW (by rw [f.eta]; exact shapeL_get [f] n hsh 0 f rfl)
      clear hg hgi
      subst hgv
      generalize g.sub.length = gn at *
      obtain ⟨W, hW⟩ : ∃ W, W = (w.alloc (.cells #[.int .i64 2, .int .i64 a, .slice (some ⟨b, off, none⟩) 1 c] 57)).alloc (.cells #[.int .i64 g.k, .int .i64 g.a, .slice A2 gn c2] 57) := ⟨_, rfl⟩
      have bW : Below w.heap.size w W := by rw [hW]; exact ((Below.refl _ _).alloc (Nat.le_refl _) _).alloc (by simp) _
      have y2 : W.cell? ⟨w.heap.size, 2, none⟩ = some (.slice (some ⟨b, off, none⟩) 1 c) := by rw [hW]; simp
      have z0 : W.cell? ⟨w.heap.size + 1, 0, none⟩ = some (.int .i64 g.k) := by rw [hW]; simp
      have z1 : W.cell? ⟨w.heap.size + 1, 1, none⟩ = some (.int .i64 g.a) := by rw [hW]; simp
      have z2 : W.cell? ⟨w.heap.size + 1, 2, none⟩ = some (.slice A2 gn c2) := by rw [hW]; simp
      rw [← hW] at x0 x1 x2 hb2
      have HX := Lib.hid (And.intro x0 (And.intro x1 (And.intro x2 (And.intro y2 (And.intro z0 (And.intro z1 z2))))))
      have BW := Lib.hid bW
      have HB2 := Lib.hid hb2
      have HE := Lib.hid hE
      clear x0 x1 x2 y2 z0 z1 z2 bW hb hb1 hb2 hE HIH HSUB HR HB0 hsh hbs
      go_enter Try.func31, Try.ntmps31
      go_upto_region 3 with fail
      rw [← hW]
      obtain ⟨x0, x1, x2, y2, z0, z1, z2⟩ := HX.out
      clear hW HX
      go_still_tail 7, (by kernel_rfl)
      change wpList _ _ _ _ _ W.drew
      go_wp2_with (go_at_call 31; refine (HE.out _ (below_drewA HB2.out)).mono ?_; rintro e w1 ⟨rfl, hb1⟩)
      go_ret
      exact ⟨rfl, BW.out.trans ((below_drew' hb1).mono BW.out.size)⟩
    rw [nnfF, if_neg k2, if_neg k1] at hg
    rw [if_neg k2] at hsh
    have hL : shapeL fs n = true ∧ (k = 3 ∨ k = 4 ∨ k = 5 ∨ k = 6) := by
      by_cases k5 : k = 5 ∨ k = 6
      · rw [if_pos k5] at hsh
        have hm : m = 0 := by simpa using hsh
        have : fs = [] := List.eq_nil_of_length_eq_zero (by omega)
        subst this
        exact ⟨rfl, by omega⟩
      · rw [if_neg k5] at hsh
        by_cases k3 : k = 3 ∨ k = 4
        · rw [if_pos k3] at hsh; exact ⟨hsh, by omega⟩
        · rw [if_neg k3] at hsh; cases hsh
    clear hsh
    obtain ⟨hsh, hk⟩ := hL
    have hgl : g.sub = nnfL fs neg := by rw [hg]; rfl
    have hga : g.a = 0 := by rw [hg]; rfl
    have hgk : g.k = if neg = true then turnK k else k := by rw [hg]; rfl
    rw [hgl] at hgi
    rw [hga, hgk]
    clear hg hga hgk
    have hlen : (nnfL fs neg).length = m := by rw [nnfL_map, List.length_map, hl]
    obtain ⟨A2, c2, ss2, rfl, hs2l, hr2, _, _, hsub2⟩ := hgi.opn
    rw [hlen] at hr2 hs2l ⊢
    clear hgi hgl hlen
    have hb1 := hb.alloc hb.size (.cells #[.int .i64 k, .int .i64 a, .slice A m c] 57)
    have hb2 := hb1.alloc hb1.size (.cells #[.int .i64 (if neg = true then turnK k else k), .int .i64 0, .slice A2 m c2] 57)
    obtain ⟨W, hW⟩ : ∃ W, W = (w.alloc (.cells #[.int .i64 k, .int .i64 a, .slice A m c] 57)).alloc (.cells #[.int .i64 (if neg = true then turnK k else k), .int .i64 0, .slice A2 m c2] 57) := ⟨_, rfl⟩
    have bW : Below w.heap.size w W := by rw [hW]; exact ((Below.refl _ _).alloc (Nat.le_refl _) _).alloc (by simp) _
    have y2 : W.cell? ⟨w.heap.size, 2, none⟩ = some (.slice A m c) := by rw [hW]; simp
    have z2 : W.cell? ⟨w.heap.size + 1, 2, none⟩ = some (.slice A2 m c2) := by rw [hW]; simp
    have hlW : w.heap.size + 1 + 1 ≤ W.heap.size := by rw [hW]; simp
    rw [← hW] at hb2
    have HX := Lib.hid (And.intro y2 (And.intro z2 hlW))
    have BW := Lib.hid bW
    have HB2 := Lib.hid hb2
    have HR2 := Lib.hid hr2
    have HSUB2 := Lib.hid hsub2
    have HSH := Lib.hid hsh
    clear y2 z2 bW hb hb1 hb2 hr2 hsub2 hsh hlW HB0
    cases neg with
    | false =>
      rw [if_neg (by simp)] at hW ⊢
      have HWW := Lib.hid hW
      clear hW
      have e1 : (k == 1) = false := by simpa using k1
      have e2 : (k == 2) = false := by simpa using k2
      go_enter Try.func31, Try.ntmps31
      go_wp2_with fail
      go_loopw [96] (fun x wr => ∃ (i : Nat), i ≤ m ∧ x = .int .i64 i ∧ Below W.heap.size W wr) (fun x _ => m - (intOf x).toNat)
      case atStart => exact ⟨0, Nat.zero_le _, rfl, by rw [HWW.out]; exact Below.refl _ _⟩
      case round =>
        obtain ⟨i, hi, rfl, hbk⟩ := hrel
        by_cases hlt : i < m
        · have hf : fs[i]? = some fs[i] := List.getElem?_eq_getElem (by omega)
          have hss : ss[i]? = some ss[i] := List.getElem?_eq_getElem (by omega)
          have hgf : (nnfL fs false)[i]? = some (nnfF fs[i] false) := by rw [nnfL_map, List.getElem?_map, hf]; rfl
          have hs2 : ss2[i]? = some ss2[i] := List.getElem?_eq_getElem (by rw [hs2l]; omega)
          have h0r : Below w0.heap.size w0 wr := HB2.out.trans (hbk.mono HB2.out.size)
          obtain ⟨b, off, rfl, x0, x1, x2, hbs⟩ := (HR.out.below h0r).f3 i hlt hf hss
          obtain ⟨b2, off2, rfl, u0, u1, u2, hbs2⟩ := (HR2.out.below h0r).f3 i hlt hgf hs2
          have hgi := HSUB2.out i _ _ hgf hs2
          have hcall := fun W' (hW' : Below w0.heap.size w0 W') => HIH.out i fs[i] _ hf hss W' fs[i].k fs[i].a false (nnfF fs[i] false) ss2[i] (by rw [fs[i].eta]) hgi hW' (by rw [fs[i].eta]; exact shapeL_get fs n HSH.out i _ hf)
          obtain ⟨A3, c3, hv3, _, _⟩ := hgi.form
          generalize nnfF fs[i] false = g at *
          generalize fs[i] = f at *
          generalize ss[i] = s at *
          generalize ss2[i] = s2 at *
          subst hv3
          obtain ⟨A', n', c', rfl⟩ := HSUB.out i s hss
          generalize g.sub.length = gn at *
          obtain ⟨y2, z2, hlW⟩ := HX.out
          have y2 := (hbk.cell (p := ⟨w.heap.size, 2, none⟩) (by simp; omega)).trans y2
          have z2 := (hbk.cell (p := ⟨w.heap.size + 1, 2, none⟩) (by simp; omega)).trans z2
          have HC := Lib.hid hcall
          have H0R := Lib.hid h0r
          have HBK := Lib.hid hbk
          clear hcall h0r hbk hf hss hgf hs2 hgi hbs hbs2
          go_upto_region 24 with fail
          go_still_tail 11, (by kernel_rfl)
          change wpList _ _ _ _ _ wr.drew
          go_wp2_with (go_at_call 31; refine (HC.out _ (below_drewA H0R.out)).mono ?_; rintro e w1 ⟨rfl, hb1⟩)
          go_roundw
          case rel => exact ⟨i + 1, by omega, by go_num, HBK.out.trans ((below_drew' hb1).mono HBK.out.size)⟩
          case measure => simp [intOf]; omega
        · obtain rfl : i = m := by omega
          go_wp2_with fail
          go_ret
          exact ⟨rfl, BW.out.trans (hbk.mono BW.out.size)⟩
    | true =>
      rw [if_pos rfl] at hW ⊢
      unfold turnK at hW ⊢
      rcases hk with rfl | rfl | rfl | rfl
      · rw [if_pos rfl] at hW ⊢
        have HWW := Lib.hid hW
        clear hW
        go_enter Try.func31, Try.ntmps31
        go_wp2_with fail
        go_loopw [96] (fun x wr => ∃ (i : Nat), i ≤ m ∧ x = .int .i64 i ∧ Below W.heap.size W wr) (fun x _ => m - (intOf x).toNat)
        case atStart => exact ⟨0, Nat.zero_le _, rfl, by rw [HWW.out]; exact Below.refl _ _⟩
        case round =>
          obtain ⟨i, hi, rfl, hbk⟩ := hrel
          by_cases hlt : i < m
          · have hf : fs[i]? = some fs[i] := List.getElem?_eq_getElem (by omega)
            have hss : ss[i]? = some ss[i] := List.getElem?_eq_getElem (by omega)
            have hgf : (nnfL fs true)[i]? = some (nnfF fs[i] true) := by rw [nnfL_map, List.getElem?_map, hf]; rfl
            have hs2 : ss2[i]? = some ss2[i] := List.getElem?_eq_getElem (by rw [hs2l]; omega)
            have h0r : Below w0.heap.size w0 wr := HB2.out.trans (hbk.mono HB2.out.size)
            obtain ⟨b, off, rfl, x0, x1, x2, hbs⟩ := (HR.out.below h0r).f3 i hlt hf hss
            obtain ⟨b2, off2, rfl, u0, u1, u2, hbs2⟩ := (HR2.out.below h0r).f3 i hlt hgf hs2
            have hgi := HSUB2.out i _ _ hgf hs2
            have hcall := fun W' (hW' : Below w0.heap.size w0 W') => HIH.out i fs[i] _ hf hss W' fs[i].k fs[i].a true (nnfF fs[i] true) ss2[i] (by rw [fs[i].eta]) hgi hW' (by rw [fs[i].eta]; exact shapeL_get fs n HSH.out i _ hf)
            obtain ⟨A3, c3, hv3, _, _⟩ := hgi.form
            generalize nnfF fs[i] true = g at *
            generalize fs[i] = f at *
            generalize ss[i] = s at *
            generalize ss2[i] = s2 at *
            subst hv3
            obtain ⟨A', n', c', rfl⟩ := HSUB.out i s hss
            generalize g.sub.length = gn at *
            obtain ⟨y2, z2, hlW⟩ := HX.out
            have y2 := (hbk.cell (p := ⟨w.heap.size, 2, none⟩) (by simp; omega)).trans y2
            have z2 := (hbk.cell (p := ⟨w.heap.size + 1, 2, none⟩) (by simp; omega)).trans z2
            have HC := Lib.hid hcall
            have H0R := Lib.hid h0r
            have HBK := Lib.hid hbk
            clear hcall h0r hbk hf hss hgf hs2 hgi hbs hbs2
            go_upto_region 24 with fail
            go_still_tail 11, (by kernel_rfl)
            change wpList _ _ _ _ _ wr.drew
            go_wp2_with (go_at_call 31; refine (HC.out _ (below_drewA H0R.out)).mono ?_; rintro e w1 ⟨rfl, hb1⟩)
            go_roundw
            case rel => exact ⟨i + 1, by omega, by go_num, HBK.out.trans ((below_drew' hb1).mono HBK.out.size)⟩
            case measure => simp [intOf]; omega
          · obtain rfl : i = m := by omega
            go_wp2_with fail
            go_ret
            exact ⟨rfl, BW.out.trans (hbk.mono BW.out.size)⟩
      · rw [if_neg (by decide), if_pos rfl] at hW ⊢
        have HWW := Lib.hid hW
        clear hW
        go_enter Try.func31, Try.ntmps31
        go_wp2_with fail
        go_loopw [96] (fun x wr => ∃ (i : Nat), i ≤ m ∧ x = .int .i64 i ∧ Below W.heap.size W wr) (fun x _ => m - (intOf x).toNat)
        case atStart => exact ⟨0, Nat.zero_le _, rfl, by rw [HWW.out]; exact Below.refl _ _⟩
        case round =>
          obtain ⟨i, hi, rfl, hbk⟩ := hrel
          by_cases hlt : i < m
          · have hf : fs[i]? = some fs[i] := List.getElem?_eq_getElem (by omega)
            have hss : ss[i]? = some ss[i] := List.getElem?_eq_getElem (by omega)
            have hgf : (nnfL fs true)[i]? = some (nnfF fs[i] true) := by rw [nnfL_map, List.getElem?_map, hf]; rfl
            have hs2 : ss2[i]? = some ss2[i] := List.getElem?_eq_getElem (by rw [hs2l]; omega)
            have h0r : Below w0.heap.size w0 wr := HB2.out.trans (hbk.mono HB2.out.size)
            obtain ⟨b, off, rfl, x0, x1, x2, hbs⟩ := (HR.out.below h0r).f3 i hlt hf hss
            obtain ⟨b2, off2, rfl, u0, u1, u2, hbs2⟩ := (HR2.out.below h0r).f3 i hlt hgf hs2
            have hgi := HSUB2.out i _ _ hgf hs2
            have hcall := fun W' (hW' : Below w0.heap.size w0 W') => HIH.out i fs[i] _ hf hss W' fs[i].k fs[i].a true (nnfF fs[i] true) ss2[i] (by rw [fs[i].eta]) hgi hW' (by rw [fs[i].eta]; exact shapeL_get fs n HSH.out i _ hf)
            obtain ⟨A3, c3, hv3, _, _⟩ := hgi.form
            generalize nnfF fs[i] true = g at *
            generalize fs[i] = f at *
            generalize ss[i] = s at *
            generalize ss2[i] = s2 at *
            subst hv3
            obtain ⟨A', n', c', rfl⟩ := HSUB.out i s hss
            generalize g.sub.length = gn at *
            obtain ⟨y2, z2, hlW⟩ := HX.out
            have y2 := (hbk.cell (p := ⟨w.heap.size, 2, none⟩) (by simp; omega)).trans y2
            have z2 := (hbk.cell (p := ⟨w.heap.size + 1, 2, none⟩) (by simp; omega)).trans z2
            have HC := Lib.hid hcall
            have H0R := Lib.hid h0r
            have HBK := Lib.hid hbk
            clear hcall h0r hbk hf hss hgf hs2 hgi hbs hbs2
            go_upto_region 24 with fail
            go_still_tail 11, (by kernel_rfl)
            change wpList _ _ _ _ _ wr.drew
            go_wp2_with (go_at_call 31; refine (HC.out _ (below_drewA H0R.out)).mono ?_; rintro e w1 ⟨rfl, hb1⟩)
            go_roundw
            case rel => exact ⟨i + 1, by omega, by go_num, HBK.out.trans ((below_drew' hb1).mono HBK.out.size)⟩
            case measure => simp [intOf]; omega
          · obtain rfl : i = m := by omega
            go_wp2_with fail
            go_ret
            exact ⟨rfl, BW.out.trans (hbk.mono BW.out.size)⟩
      · rw [if_neg (by decide), if_neg (by decide), if_pos rfl] at hW ⊢
        have HWW := Lib.hid hW
        clear hW
        go_enter Try.func31, Try.ntmps31
        go_wp2_with fail
        go_loopw [96] (fun x wr => ∃ (i : Nat), i ≤ m ∧ x = .int .i64 i ∧ Below W.heap.size W wr) (fun x _ => m - (intOf x).toNat)
        case atStart => exact ⟨0, Nat.zero_le _, rfl, by rw [HWW.out]; exact Below.refl _ _⟩
        case round =>
          obtain ⟨i, hi, rfl, hbk⟩ := hrel
          by_cases hlt : i < m
          · have hf : fs[i]? = some fs[i] := List.getElem?_eq_getElem (by omega)
            have hss : ss[i]? = some ss[i] := List.getElem?_eq_getElem (by omega)
            have hgf : (nnfL fs true)[i]? = some (nnfF fs[i] true) := by rw [nnfL_map, List.getElem?_map, hf]; rfl
            have hs2 : ss2[i]? = some ss2[i] := List.getElem?_eq_getElem (by rw [hs2l]; omega)
            have h0r : Below w0.heap.size w0 wr := HB2.out.trans (hbk.mono HB2.out.size)
            obtain ⟨b, off, rfl, x0, x1, x2, hbs⟩ := (HR.out.below h0r).f3 i hlt hf hss
            obtain ⟨b2, off2, rfl, u0, u1, u2, hbs2⟩ := (HR2.out.below h0r).f3 i hlt hgf hs2
            have hgi := HSUB2.out i _ _ hgf hs2
            have hcall := fun W' (hW' : Below w0.heap.size w0 W') => HIH.out i fs[i] _ hf hss W' fs[i].k fs[i].a true (nnfF fs[i] true) ss2[i] (by rw [fs[i].eta]) hgi hW' (by rw [fs[i].eta]; exact shapeL_get fs n HSH.out i _ hf)
            obtain ⟨A3, c3, hv3, _, _⟩ := hgi.form
            generalize nnfF fs[i] true = g at *
            generalize fs[i] = f at *
            generalize ss[i] = s at *
            generalize ss2[i] = s2 at *
            subst hv3
            obtain ⟨A', n', c', rfl⟩ := HSUB.out i s hss
            generalize g.sub.length = gn at *
            obtain ⟨y2, z2, hlW⟩ := HX.out
            have y2 := (hbk.cell (p := ⟨w.heap.size, 2, none⟩) (by simp; omega)).trans y2
            have z2 := (hbk.cell (p := ⟨w.heap.size + 1, 2, none⟩) (by simp; omega)).trans z2
            have HC := Lib.hid hcall
            have H0R := Lib.hid h0r
            have HBK := Lib.hid hbk
            clear hcall h0r hbk hf hss hgf hs2 hgi hbs hbs2
            go_upto_region 24 with fail
            go_still_tail 11, (by kernel_rfl)
            change wpList _ _ _ _ _ wr.drew
            go_wp2_with (go_at_call 31; refine (HC.out _ (below_drewA H0R.out)).mono ?_; rintro e w1 ⟨rfl, hb1⟩)
            go_roundw
            case rel => exact ⟨i + 1, by omega, by go_num, HBK.out.trans ((below_drew' hb1).mono HBK.out.size)⟩
            case measure => simp [intOf]; omega
          · obtain rfl : i = m := by omega
            go_wp2_with fail
            go_ret
            exact ⟨rfl, BW.out.trans (hbk.mono BW.out.size)⟩
      · rw [if_neg (by decide), if_neg (by decide), if_neg (by decide)] at hW ⊢
        have HWW := Lib.hid hW
        clear hW
        go_enter Try.func31, Try.ntmps31
        go_wp2_with fail
        go_loopw [96] (fun x wr => ∃ (i : Nat), i ≤ m ∧ x = .int .i64 i ∧ Below W.heap.size W wr) (fun x _ => m - (intOf x).toNat)
        case atStart => exact ⟨0, Nat.zero_le _, rfl, by rw [HWW.out]; exact Below.refl _ _⟩
        case round =>
          obtain ⟨i, hi, rfl, hbk⟩ := hrel
          by_cases hlt : i < m
          · have hf : fs[i]? = some fs[i] := List.getElem?_eq_getElem (by omega)
            have hss : ss[i]? = some ss[i] := List.getElem?_eq_getElem (by omega)
            have hgf : (nnfL fs true)[i]? = some (nnfF fs[i] true) := by rw [nnfL_map, List.getElem?_map, hf]; rfl
            have hs2 : ss2[i]? = some ss2[i] := List.getElem?_eq_getElem (by rw [hs2l]; omega)
            have h0r : Below w0.heap.size w0 wr := HB2.out.trans (hbk.mono HB2.out.size)
            obtain ⟨b, off, rfl, x0, x1, x2, hbs⟩ := (HR.out.below h0r).f3 i hlt hf hss
            obtain ⟨b2, off2, rfl, u0, u1, u2, hbs2⟩ := (HR2.out.below h0r).f3 i hlt hgf hs2
            have hgi := HSUB2.out i _ _ hgf hs2
            have hcall := fun W' (hW' : Below w0.heap.size w0 W') => HIH.out i fs[i] _ hf hss W' fs[i].k fs[i].a true (nnfF fs[i] true) ss2[i] (by rw [fs[i].eta]) hgi hW' (by rw [fs[i].eta]; exact shapeL_get fs n HSH.out i _ hf)
            obtain ⟨A3, c3, hv3, _, _⟩ := hgi.form
            generalize nnfF fs[i] true = g at *
            generalize fs[i] = f at *
            generalize ss[i] = s at *
            generalize ss2[i] = s2 at *
            subst hv3
            obtain ⟨A', n', c', rfl⟩ := HSUB.out i s hss
            generalize g.sub.length = gn at *
            obtain ⟨y2, z2, hlW⟩ := HX.out
            have y2 := (hbk.cell (p := ⟨w.heap.size, 2, none⟩) (by simp; omega)).trans y2
            have z2 := (hbk.cell (p := ⟨w.heap.size + 1, 2, none⟩) (by simp; omega)).trans z2
            have HC := Lib.hid hcall
            have H0R := Lib.hid h0r
            have HBK := Lib.hid hbk
            clear hcall h0r hbk hf hss hgf hs2 hgi hbs hbs2
            go_upto_region 24 with fail
            go_still_tail 11, (by kernel_rfl)
            change wpList _ _ _ _ _ wr.drew
            go_wp2_with (go_at_call 31; refine (HC.out _ (below_drewA H0R.out)).mono ?_; rintro e w1 ⟨rfl, hb1⟩)
            go_roundw
            case rel => exact ⟨i + 1, by omega, by go_num, HBK.out.trans ((below_drew' hb1).mono HBK.out.size)⟩
            case measure => simp [intOf]; omega
          · obtain rfl : i = m := by omega
            go_wp2_with fail
            go_ret
            exact ⟨rfl, BW.out.trans (hbk.mono BW.out.size)⟩
end Go.Proofs.Ytdpnififbpoagaa
