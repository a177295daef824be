/- Contract of the reference of formulas: Place. -/
import Derived.Test.YtbcabcdgblmnkaaPlPlace
import Derived.Test.YtbcabcdgblmnkaaRefDo
namespace Go.Proofs.Ytbcabcdgblmnkaa
open Go.RowKit
set_option linter.unusedVariables false
set_option linter.unusedSimpArgs false

/-- what the reference's placing keeps: all but the row v, which may have turned into v'; and every row of another type. -/
structure RPl (B : Nat) (v v' : Value) (w w' : World) : Prop where
  bel : Below B w w'
  kp : ∀ (g : Nat) (cs : Array Value) (t : TypeId), w.heap[g]? = some (.cells cs t (0, 0)) → t ≠ 108 → w'.heap[g]? = w.heap[g]?
  fr : Fr (ownS v) w w'
  loc : ∀ b, v'.ownBlock = some b → v.ownBlock = some b ∨ w.heap.size ≤ b
theorem RPl.refl (B : Nat) (v : Value) (w : World) : RPl B v v w w := ⟨Below.refl _ _, fun _ _ _ _ _ => rfl, Fr.refl _ _, fun _ h => .inl h⟩
theorem RPl.trans {B : Nat} {v v1 v2 : Value} {w w1 w2 : World} (h : RPl B v v1 w w1) (h' : RPl B v1 v2 w1 w2) : RPl B v v2 w w2 :=
  ⟨h.bel.trans h'.bel, fun g cs t hg ht => (h'.kp g cs t ((h.kp g cs t hg ht).trans hg) ht).trans (h.kp g cs t hg ht), h.fr.trans h'.fr (fun b hb => h.loc b hb), fun b hb => by
    rcases h'.loc b hb with e | e
    · exact h.loc b e
    · exact .inr (Nat.le_trans h.fr.size e)⟩
theorem RPl.alloc {B : Nat} {v v' : Value} {w w1 : World} (h : RPl B v v' w w1) (hB : B ≤ w.heap.size) (o : Obj) : RPl B v v' w (w1.alloc o) :=
  ⟨h.bel.alloc (Nat.le_trans hB h.bel.size) o, fun g cs t hg ht => (alloc_old o (lt_of_blk ((h.kp g cs t hg ht).trans hg))).trans (h.kp g cs t hg ht), h.fr.alloc o, h.loc⟩
theorem RAf.pl {B : Nat} {v v' : Value} {w w' : World} {ns ns' : List Nd} (h : RAf B v w w' v' ns') (hB : B ≤ w.heap.size) (ho : w.ownsRow B 108 3 v ns.length (ndCells ns)) : RPl B v v' w w' :=
  ⟨h.fr.below hB (fun b hb => (own_lt ho hb).1), fun g cs t hg ht => h.fr.block g (lt_of_blk hg) (fun hs => own_type ho hg (fun e => ht e.symm) hs), h.fr, h.loc⟩
/-- the blocks S are as they were. -/
structure KS (S : Nat → Prop) (w0 w : World) : Prop where
  size : w0.heap.size ≤ w.heap.size
  cell : ∀ p : Addr, p.block < w0.heap.size → S p.block → w.cell? p = w0.cell? p
theorem KS.alloc {S : Nat → Prop} {w0 w : World} (h : KS S w0 w) (o : Obj) : KS S w0 (w.alloc o) :=
  ⟨by have := h.size; simp; omega, fun p hp hs => (World.cell?_alloc_lt w o p (Nat.lt_of_lt_of_le hp h.size)).trans (h.cell p hp hs)⟩
theorem KS.rpl {S : Nat → Prop} {B : Nat} {v v' : Value} {w0 w w' : World} (h : KS S w0 w) (hp : RPl B v v' w w') (hv : ∀ b, b < w0.heap.size → S b → v.ownBlock ≠ some b) : KS S w0 w' :=
  ⟨Nat.le_trans h.size hp.fr.size, fun p hb hs => (hp.fr.cell (Nat.lt_of_lt_of_le hb h.size) (fun e => hv _ hb hs e)).trans (h.cell p hb hs)⟩
theorem Rd.onK {S : Nat → Prop} {w0 w : World} {n : Nat} {A : Option Addr} {xs : List Value} (hr : Rd w0 3 A n xs) (hS : ∀ b o, 0 < n → A = some ⟨b, o, none⟩ → S b) (h : KS S w0 w) : Rd w 3 A n xs :=
  ⟨hr.1, fun h0 => by
    obtain ⟨b, off, e, hcell⟩ := hr.2 h0
    exact ⟨b, off, e, fun j u hu => (h.cell _ (World.block_lt_of_cell? w0 _ (hcell j u hu)) (hS b off h0 e)).trans (hcell j u hu)⟩⟩
theorem ans_may {ns : List Nd} {o : Nd} (hl : ns.length < 20000) (hm : mayN ns o = true) : ansI (doN ns o).2 = ((dAns (doN ns o)).2 : Nat) := by
  have h := do_getD hl hm
  unfold dAns
  rw [h]
  rfl

theorem rdo_pl (B : Nat) (v : Value) (ns : List Nd) (o : Nd) (w : World) (hB : B ≤ w.heap.size) (hG : Good ns) (ho : w.ownsRow B 108 3 v ns.length (ndCells ns)) (hl : ns.length < 20000) (hm : mayN ns o = true) :
    Calls Try.prog 73 #[v, .agg #[.int .i64 o.k, .int .i64 o.a, .int .i64 o.b]] w fun e w' => ∃ v', e = .returned (.tuple #[v', .int .i64 ((dAns (doN ns o)).2 : Nat)]) ∧
      w'.ownsRow B 108 3 v' (dAns (doN ns o)).1.length (ndCells (dAns (doN ns o)).1) ∧ RPl B v v' w w' :=
  (rdo_any B v ns o w hB hG ho).mono (fun e w' ⟨v', h1, h2⟩ => ⟨v', h1.trans (by rw [ans_may hl hm]), h2.own, h2.pl hB ho⟩)

set_option maxRecDepth 100000 in
set_option maxHeartbeats 4000000 in
theorem rplace_any {S : Nat → Prop} {w0 : World} {fs : List Fm} {sv : Value} (h : FOn S w0 fs sv) (vals : List Bool) (B : Nat) : ∀ (w : World) (k a : Int) (v : Value) (ns : List Nd), KS S w0 w → (∀ b, b < w0.heap.size → S b → v.ownBlock ≠ some b) → shapeF (.mk k a fs) vals.length = true → Good ns → ns.length + 2 * sizeF (.mk k a fs) ≤ 20000 → B ≤ w.heap.size → w.ownsRow B 108 3 v ns.length (ndCells ns) →
    Calls Try.prog 59 #[v, .agg #[.int .i64 k, .int .i64 a, sv]] w fun e w' => ∃ v', e = .returned (.tuple #[v', .int .i64 ((placeF (.mk k a fs) ns).2 : Nat)]) ∧ w'.ownsRow B 108 3 v' (placeF (.mk k a fs) ns).1.length (ndCells (placeF (.mk k a fs) ns).1) ∧ RPl B v v' w w' := by
  induction h with
  | mk A m c fs ss hl hs hnc hc hr hS hsub ih =>
    intro w k a v ns hb hv hsh hg hsz hB hown
    unfold maxLen at hc
    have hok := place_ok (.mk k a fs) vals ns hg hsh hsz
    rw [shapeF, hl] at hsh
    rw [placeF] at hok ⊢
    rw [sizeF] at hsz
    have h2 := hg.two
    have h01 : KS S w0 (w.alloc (.cells #[.int .i64 k, .int .i64 a, .slice A m c] 66)) := hb.alloc _
    have hbx := heap_alloc_new w (.cells #[.int .i64 k, .int .i64 a, .slice A m c] 66)
    have hp0 : RPl B v v w (w.alloc (.cells #[.int .i64 k, .int .i64 a, .slice A m c] 66)) := (RPl.refl B v w).alloc hB _
    have ho1 := hown.alloc (.cells #[.int .i64 k, .int .i64 a, .slice A m c] 66)
    have hB1 : B ≤ (w.alloc (.cells #[.int .i64 k, .int .i64 a, .slice A m c] 66)).heap.size := by simp; omega
    have hfm : ∀ (i : Nat) (s : Value), ss[i]? = some s → ∃ A n c, s = Value.slice A n c := fun i s hi => by
      have hlt := (List.getElem?_eq_some_iff.1 hi).1
      obtain ⟨A', c', e, _⟩ := (hsub i _ s (List.getElem?_eq_getElem (by omega)) hi).form
      exact ⟨A', _, c', e⟩
    have HSUB := Lib.hid hfm
    have HV := Lib.hid hv
    have HS := Lib.hid hS
    have HIH := Lib.hid ih
    have HP0 := Lib.hid hp0
    have HO1 := Lib.hid ho1
    have HB1 := Lib.hid hB1
    have HBX := Lib.hid hbx
    have HG := Lib.hid hg
    have HR := Lib.hid hr
    have H01 := Lib.hid h01
    clear ih hsub hb hv hS hfm hown hp0 ho1 hB1 hbx hg hr h01
    by_cases k1 : k = 1
    · subst k1
      rw [if_pos rfl] at hsh ⊢
      simp only [Bool.and_eq_true, decide_eq_true_eq] at hsh
      obtain ⟨ha, han, hm⟩ := hsh
      subst hm
      have hmay : mayN ns ⟨3, a, 0⟩ = true := by simp [mayN, ha]
      have hdo := rdo_pl B v ns ⟨3, a, 0⟩ _ HB1.out HG.out HO1.out (by omega) hmay
      generalize dAns (doN ns ⟨3, a, 0⟩) = D at *
      obtain ⟨ns', q⟩ := D
      simp only at hdo ⊢
      clear hok hmay
      go_enter Try.func59, Try.ntmps59
      go_wp2_with (go_at_call 73; refine hdo.mono ?_; rintro e w' ⟨v', rfl, ho', hp'⟩; have HO' := Lib.hid ho'; clear ho')
      go_ret2
      exact ⟨_, rfl, HO'.out, HP0.out.trans hp'⟩
    rw [if_neg k1] at hsh hok ⊢
    by_cases k2 : k = 2
    · subst k2
      rw [if_neg (by decide), if_pos rfl, Bool.and_eq_true, decide_eq_true_eq] at hsh
      rw [if_pos rfl]
      obtain ⟨hm, hsh⟩ := hsh
      subst hm
      obtain ⟨f, rfl⟩ : ∃ f, fs = [f] := List.length_eq_one_iff.1 hl
      obtain ⟨s, rfl⟩ : ∃ s, ss = [s] := List.length_eq_one_iff.1 hs
      obtain ⟨b, off, rfl, x0, x1, x2, hbs⟩ := (HR.out.onK HS.out H01.out).f3 0 (by omega) (f := f) (s := s) rfl rfl
      simp only [Nat.zero_mul, Nat.add_zero] at x0 x1 x2
      obtain ⟨A', n', c', rfl⟩ := HSUB.out 0 s rfl
      rw [sizeL, sizeL] at hsz
      have hps := sizeF_pos f
      have hshf := shapeL_get [f] _ hsh 0 f rfl
      have hcl := HIH.out 0 f _ rfl rfl _ f.k f.a v ns H01.out HV.out (by rw [f.eta]; exact hshf) HG.out (by rw [f.eta]; omega) HB1.out HO1.out
      have hokf := place_ok f vals ns HG.out hshf (by omega)
      rw [f.eta] at hcl
      rw [placeN]
      have hlt1 := hokf.lt
      have hgp := hokf.good
      have hlen := hokf.len
      clear hok
      generalize placeF f ns = p at *
      obtain ⟨ns1, i1⟩ := p
      simp only at hcl hgp hlt1 hlen ⊢
      have hmay := may_not hlt1
      have hdo := fun v2 W (hW : B ≤ W.heap.size) (ho : W.ownsRow B 108 3 v2 ns1.length (ndCells ns1)) => rdo_pl B v2 ns1 ⟨4, i1, 0⟩ W hW hgp ho (by omega) hmay
      generalize dAns (doN ns1 ⟨4, i1, 0⟩) = D at *
      obtain ⟨ns', q⟩ := D
      simp only at hdo ⊢
      have z2 : (w.alloc (.cells #[.int .i64 2, .int .i64 a, .slice (some ⟨b, off, none⟩) 1 c] 66)).cell? ⟨w.heap.size, 2, none⟩ = some (.slice (some ⟨b, off, none⟩) 1 c) := (cell_of_blk HBX.out 2).trans rfl
      have HCL := Lib.hid hcl
      have HDO := Lib.hid hdo
      have HX := Lib.hid (And.intro x0 (And.intro x1 (And.intro x2 z2)))
      clear hcl hdo hmay hokf hgp hlt1 hlen hshf hsh x0 x1 x2 z2
      obtain ⟨W, hW⟩ : ∃ W, W = w.alloc (.cells #[.int .i64 2, .int .i64 a, .slice (some ⟨b, off, none⟩) 1 c] 66) := ⟨_, rfl⟩
      rw [← hW] at HP0 HO1 HB1 HBX HCL HX
      go_enter Try.func59, Try.ntmps59
      go_upto_region 6 with fail
      rw [← hW]
      obtain ⟨x0, x1, x2, x3⟩ := HX.out
      clear hW HX
      go_wp2_with (first | (go_at_call 59; refine HCL.out.mono ?_; rintro e w3 ⟨v3, rfl, ho3, hp3⟩; have HP3 := Lib.hid (HP0.out.trans hp3); have hB3 := Nat.le_trans HB1.out hp3.bel.size; have HO3 := Lib.hid ho3; clear hp3 ho3) | (go_at_call 73; refine (HDO.out _ _ hB3 HO3.out).mono ?_; rintro e w4 ⟨v4, rfl, ho4, hp4⟩; have HP4 := Lib.hid (HP3.out.trans hp4); have HO4 := Lib.hid ho4; clear hp4 ho4))
      go_ret2
      exact ⟨_, rfl, HO4.out, HP4.out⟩
    rw [if_neg k2] at hok ⊢
    by_cases k6 : k = 6
    · subst k6
      rw [if_pos rfl]
      clear hok
      go_enter Try.func59, Try.ntmps59
      go_wp2_with fail
      go_ret2
      exact ⟨_, rfl, HO1.out, HP0.out⟩
    rw [if_neg k6] at hok ⊢
    by_cases k5 : k = 5
    · subst k5
      rw [if_pos (.inl rfl), decide_eq_true_eq] at hsh
      subst hsh
      have hsub : fs = [] := List.eq_nil_of_length_eq_zero hl
      subst hsub
      rw [if_neg (by decide), placeL]
      clear hok
      go_enter Try.func59, Try.ntmps59
      go_wp2_with fail
      go_ret2
      exact ⟨_, rfl, HO1.out, HP0.out⟩
    clear hok
    rw [if_neg (by omega), if_neg k2] at hsh
    by_cases k3 : k = 3
    · subst k3
      rw [if_pos (.inl rfl)] at hsh
      rw [if_neg (by decide)]
      have HSZ := Lib.hid (show ns.length + 2 * sizeL fs ≤ 20000 by omega)
      have HSH := Lib.hid hsh
      generalize hR : placeL fs 5 ns 1 = R
      have HRR := Lib.hid hR
      clear hsh hR hsz
      generalize hW1 : w.alloc (.cells #[.int .i64 3, .int .i64 a, .slice A m c] 66) = W1 at *
      have c0 := cell_of_blk HBX.out 0
      have c1 := cell_of_blk HBX.out 1
      have c2 := cell_of_blk HBX.out 2
      simp at c0 c1 c2
      go_enter Try.func59, Try.ntmps59
      go_wp2_with fail
      clear c0 c1 c2
      go_loopw [0, 7, 50] (fun nv y x wr => ∃ (i n' : Nat) (ns' : List Nd) (v1 : Value), i ≤ m ∧ x = .int .i64 i ∧ y = .int .i64 n' ∧ v1 = nv ∧ placeL (fs.drop i) 5 ns' n' = R ∧ Good ns' ∧ n' < ns'.length ∧ ns'.length + 2 * sizeL (fs.drop i) ≤ 20000 ∧ wr.ownsRow B 108 3 v1 ns'.length (ndCells ns') ∧ RPl B v v1 W1 wr) (fun _ _ x _ => m - (intOf x).toNat)
      case atStart => exact ⟨0, 1, ns, v, Nat.zero_le _, rfl, rfl, rfl, by rw [List.drop_zero]; exact HRR.out, HG.out, by omega, by rw [List.drop_zero]; exact HSZ.out, HO1.out, RPl.refl _ _ _⟩
      case round =>
        obtain ⟨i, n', ns', v1, hi, rfl, rfl, rfl, hC, hg', hn', hsz', hown', hpl'⟩ := hrel
        have hbox := (hpl'.kp _ _ _ HBX.out (by decide)).trans HBX.out
        have c0 := cell_of_blk hbox 0
        have c1 := cell_of_blk hbox 1
        have c2 := cell_of_blk hbox 2
        simp at c0 c1 c2
        by_cases hlt : i < m
        · have hf : fs[i]? = some fs[i] := List.getElem?_eq_getElem (by omega)
          have hss : ss[i]? = some ss[i] := List.getElem?_eq_getElem (by omega)
          have h0r : KS S w0 wr := H01.out.rpl hpl' HV.out
          have hv1 : ∀ b, b < w0.heap.size → S b → v1.ownBlock ≠ some b := fun b hb hs e => by
            rcases hpl'.loc b e with h | h
            · exact HV.out b hb hs h
            · have := H01.out.size; omega
          have hBw : B ≤ wr.heap.size := Nat.le_trans HB1.out hpl'.bel.size
          obtain ⟨b, off, rfl, x0, x1, x2, hbs⟩ := (HR.out.onK HS.out h0r).f3 i hlt hf hss
          have hshf := shapeL_get fs _ HSH.out i _ hf
          rw [drop_cons fs i _ hf, placeL] at hC
          rw [drop_cons fs i _ hf, sizeL] at hsz'
          generalize fs[i] = f at *
          generalize ss[i] = s at *
          obtain ⟨A', n1, c', rfl⟩ := HSUB.out i s hss
          have hps := sizeF_pos f
          have hcl := HIH.out i f _ hf hss _ f.k f.a v1 ns' (h0r.alloc (.cells #[.int .i64 f.k, .int .i64 f.a, .slice A' n1 c'] 66)) hv1 (by rw [f.eta]; exact hshf) hg' (by rw [f.eta]; omega) (by simp; omega) (hown'.alloc _)
          have hok := place_ok f vals ns' hg' hshf (by omega)
          rw [f.eta] at hcl
          obtain ⟨hn1, _⟩ := hok.old n' hn'
          have hlt1 := hok.lt
          have hgp := hok.good
          have hlen := hok.len
          generalize placeF f ns' = p at *
          obtain ⟨ns1, i1⟩ := p
          simp only at hcl hgp hC hlt1 hlen hn1
          have hmay := may_pair (kind := 5) (by decide) hn1 hlt1
          have hdk := do_ok (vals := vals) hgp ⟨5, n', i1⟩ (by omega) hmay
          have hdo := fun v2 W (hW : B ≤ W.heap.size) (ho : W.ownsRow B 108 3 v2 ns1.length (ndCells ns1)) => rdo_pl B v2 ns1 ⟨5, n', i1⟩ W hW hgp ho (by omega) hmay
          have hgd := hdk.good
          have hlt2 := hdk.lt
          have hlen2 := hdk.len
          generalize dAns (doN ns1 ⟨5, n', i1⟩) = D at *
          obtain ⟨ns2, q⟩ := D
          have HOK := Lib.hid (And.intro hgd (And.intro hlt2 (show ns2.length + 2 * sizeL (fs.drop (i + 1)) ≤ 20000 by simp only at hlen2; omega)))
          have HCL := Lib.hid hcl
          have HDO := Lib.hid hdo
          have HCC := Lib.hid hC
          have HP := Lib.hid hpl'
          clear hcl hdo hgd hlt2 hlen2 hmay hdk hlt1 hgp hlen hn1 hok hsz' hown' hpl' hC hg' hf hss hshf h0r hv1 hbox
          go_wp2_with (first | (go_at_call 59; refine HCL.out.mono ?_; rintro e w3 ⟨v3, rfl, ho3, hp3⟩; have hpw := (HP.out.alloc HB1.out _).trans hp3; have hbox3 := (hpw.kp _ _ _ HBX.out (by decide)).trans HBX.out; have d0 := cell_of_blk hbox3 0; simp at d0; have HP3 := Lib.hid hpw; have HO3 := Lib.hid ho3; clear hp3 ho3 hpw hbox3) | (go_at_call 73; refine (HDO.out _ _ (Nat.le_trans HB1.out HP3.out.bel.size) HO3.out).mono ?_; rintro e w4 ⟨v4, rfl, ho4, hp4⟩; have HP4 := Lib.hid (HP3.out.trans hp4); have HO4 := Lib.hid ho4; clear hp4 ho4))
          go_roundw
          case rel => exact ⟨i + 1, q, ns2, _, by omega, by go_num, rfl, rfl, HCC.out, HOK.out.1, HOK.out.2.1, HOK.out.2.2, HO4.out, HP4.out⟩
          case measure => simp [intOf]; omega
        · obtain rfl : i = m := by omega
          rw [List.drop_of_length_le (by omega), placeL] at hC
          subst hC
          have HO4 := Lib.hid hown'
          have HP4 := Lib.hid hpl'
          clear hpl' hg' hown' hsz'
          go_wp2_with fail
          go_ret2
          exact ⟨_, rfl, HO4.out, HP0.out.trans HP4.out⟩
    by_cases k4 : k = 4
    · subst k4
      rw [if_pos (.inr rfl)] at hsh
      rw [if_pos rfl]
      have HSZ := Lib.hid (show ns.length + 2 * sizeL fs ≤ 20000 by omega)
      have HSH := Lib.hid hsh
      generalize hR : placeL fs 6 ns 0 = R
      have HRR := Lib.hid hR
      clear hsh hR hsz
      generalize hW1 : w.alloc (.cells #[.int .i64 4, .int .i64 a, .slice A m c] 66) = W1 at *
      have c0 := cell_of_blk HBX.out 0
      have c1 := cell_of_blk HBX.out 1
      have c2 := cell_of_blk HBX.out 2
      simp at c0 c1 c2
      go_enter Try.func59, Try.ntmps59
      go_wp2_with fail
      clear c0 c1 c2
      go_loopw [0, 7, 50] (fun nv y x wr => ∃ (i n' : Nat) (ns' : List Nd) (v1 : Value), i ≤ m ∧ x = .int .i64 i ∧ y = .int .i64 n' ∧ v1 = nv ∧ placeL (fs.drop i) 6 ns' n' = R ∧ Good ns' ∧ n' < ns'.length ∧ ns'.length + 2 * sizeL (fs.drop i) ≤ 20000 ∧ wr.ownsRow B 108 3 v1 ns'.length (ndCells ns') ∧ RPl B v v1 W1 wr) (fun _ _ x _ => m - (intOf x).toNat)
      case atStart => exact ⟨0, 0, ns, v, Nat.zero_le _, rfl, rfl, rfl, by rw [List.drop_zero]; exact HRR.out, HG.out, by omega, by rw [List.drop_zero]; exact HSZ.out, HO1.out, RPl.refl _ _ _⟩
      case round =>
        obtain ⟨i, n', ns', v1, hi, rfl, rfl, rfl, hC, hg', hn', hsz', hown', hpl'⟩ := hrel
        have hbox := (hpl'.kp _ _ _ HBX.out (by decide)).trans HBX.out
        have c0 := cell_of_blk hbox 0
        have c1 := cell_of_blk hbox 1
        have c2 := cell_of_blk hbox 2
        simp at c0 c1 c2
        by_cases hlt : i < m
        · have hf : fs[i]? = some fs[i] := List.getElem?_eq_getElem (by omega)
          have hss : ss[i]? = some ss[i] := List.getElem?_eq_getElem (by omega)
          have h0r : KS S w0 wr := H01.out.rpl hpl' HV.out
          have hv1 : ∀ b, b < w0.heap.size → S b → v1.ownBlock ≠ some b := fun b hb hs e => by
            rcases hpl'.loc b e with h | h
            · exact HV.out b hb hs h
            · have := H01.out.size; omega
          have hBw : B ≤ wr.heap.size := Nat.le_trans HB1.out hpl'.bel.size
          obtain ⟨b, off, rfl, x0, x1, x2, hbs⟩ := (HR.out.onK HS.out h0r).f3 i hlt hf hss
          have hshf := shapeL_get fs _ HSH.out i _ hf
          rw [drop_cons fs i _ hf, placeL] at hC
          rw [drop_cons fs i _ hf, sizeL] at hsz'
          generalize fs[i] = f at *
          generalize ss[i] = s at *
          obtain ⟨A', n1, c', rfl⟩ := HSUB.out i s hss
          have hps := sizeF_pos f
          have hcl := HIH.out i f _ hf hss _ f.k f.a v1 ns' (h0r.alloc (.cells #[.int .i64 f.k, .int .i64 f.a, .slice A' n1 c'] 66)) hv1 (by rw [f.eta]; exact hshf) hg' (by rw [f.eta]; omega) (by simp; omega) (hown'.alloc _)
          have hok := place_ok f vals ns' hg' hshf (by omega)
          rw [f.eta] at hcl
          obtain ⟨hn1, _⟩ := hok.old n' hn'
          have hlt1 := hok.lt
          have hgp := hok.good
          have hlen := hok.len
          generalize placeF f ns' = p at *
          obtain ⟨ns1, i1⟩ := p
          simp only at hcl hgp hC hlt1 hlen hn1
          have hmay := may_pair (kind := 6) (by decide) hn1 hlt1
          have hdk := do_ok (vals := vals) hgp ⟨6, n', i1⟩ (by omega) hmay
          have hdo := fun v2 W (hW : B ≤ W.heap.size) (ho : W.ownsRow B 108 3 v2 ns1.length (ndCells ns1)) => rdo_pl B v2 ns1 ⟨6, n', i1⟩ W hW hgp ho (by omega) hmay
          have hgd := hdk.good
          have hlt2 := hdk.lt
          have hlen2 := hdk.len
          generalize dAns (doN ns1 ⟨6, n', i1⟩) = D at *
          obtain ⟨ns2, q⟩ := D
          have HOK := Lib.hid (And.intro hgd (And.intro hlt2 (show ns2.length + 2 * sizeL (fs.drop (i + 1)) ≤ 20000 by simp only at hlen2; omega)))
          have HCL := Lib.hid hcl
          have HDO := Lib.hid hdo
          have HCC := Lib.hid hC
          have HP := Lib.hid hpl'
          clear hcl hdo hgd hlt2 hlen2 hmay hdk hlt1 hgp hlen hn1 hok hsz' hown' hpl' hC hg' hf hss hshf h0r hv1 hbox
          go_wp2_with (first | (go_at_call 59; refine HCL.out.mono ?_; rintro e w3 ⟨v3, rfl, ho3, hp3⟩; have hpw := (HP.out.alloc HB1.out _).trans hp3; have hbox3 := (hpw.kp _ _ _ HBX.out (by decide)).trans HBX.out; have d0 := cell_of_blk hbox3 0; simp at d0; have HP3 := Lib.hid hpw; have HO3 := Lib.hid ho3; clear hp3 ho3 hpw hbox3) | (go_at_call 73; refine (HDO.out _ _ (Nat.le_trans HB1.out HP3.out.bel.size) HO3.out).mono ?_; rintro e w4 ⟨v4, rfl, ho4, hp4⟩; have HP4 := Lib.hid (HP3.out.trans hp4); have HO4 := Lib.hid ho4; clear hp4 ho4))
          go_roundw
          case rel => exact ⟨i + 1, q, ns2, _, by omega, by go_num, rfl, rfl, HCC.out, HOK.out.1, HOK.out.2.1, HOK.out.2.2, HO4.out, HP4.out⟩
          case measure => simp [intOf]; omega
        · obtain rfl : i = m := by omega
          rw [List.drop_of_length_le (by omega), placeL] at hC
          subst hC
          have HO4 := Lib.hid hown'
          have HP4 := Lib.hid hpl'
          clear hpl' hg' hown' hsz'
          go_wp2_with fail
          go_ret2
          exact ⟨_, rfl, HO4.out, HP0.out.trans HP4.out⟩
    · rw [if_neg (by omega)] at hsh
      cases hsh
end Go.Proofs.Ytbcabcdgblmnkaa
