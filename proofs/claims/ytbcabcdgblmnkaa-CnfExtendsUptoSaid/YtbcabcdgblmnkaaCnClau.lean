/- Contract of package cnf: Clausify. -/
import Derived.Test.YtbcabcdgblmnkaaCnMap
import Derived.Test.YtbcabcdgblmnkaaPlPlace
import Derived.Test.YtbcabcdgblmnkaaCnAtoms
import Derived.Deep.RegionHeld3
namespace Go.Proofs.Ytbcabcdgblmnkaa
open Go.RowKit
set_option linter.unusedVariables false
set_option linter.unusedSimpArgs false

/-- the clauses as they are handed out. -/
structure RowsS (B : Nat) (w : World) (v : Value) (vs : List Value) (yss : List (List Int)) : Prop where
  own : w.ownsRow B 22 1 v vs.length vs
  len : vs.length = yss.length
  rows : ∀ (i : Nat) (u : Value) (ys : List Int), vs[i]? = some u → yss[i]? = some ys → RowI w B u ys
theorem RowsS.below {B : Nat} {w w' : World} {v : Value} {vs : List Value} {yss : List (List Int)} (h : RowsS B w v vs yss) (hb : Below w.heap.size w w') : RowsS B w' v vs yss :=
  ⟨own_below h.own hb, h.len, fun i u ys hu hy => (h.rows i u ys hu hy).below hb⟩
/-- all that Clausify holds while it adds clauses. -/
structure ClS (w0 w : World) (ns : List Nd) (ps : List Nat) (A A2 : Option Addr) (cA c2 mb nb rb ob : Nat) (v : Value) (vs : List Value) (yss : List (List Int)) : Prop where
  map : w.heap[mb]? = some (.map (ents (entP ns ps 0) 0).toArray (entP ns ps 0).length)
  nodes : w.ownsRow w0.heap.size 96 3 (.slice A ns.length cA) ns.length (ndCells ns)
  parts : w.ownsRow w0.heap.size 3 1 (.slice A2 ps.length c2) ps.length (ints (natI ps))
  box : w.heap[nb]? = some (.cells #[.slice A ns.length cA, .map (some mb), .int .i64 (ps.length : Int)] 94 (0, 0))
  res : w.heap[rb]? = some (.cells #[.int .i64 0, .slice none 0 0] 60 (0, 0))
  ne : rb < ob
  le : w0.heap.size ≤ ob
  out : OutS w0.heap.size w ob ps.length v vs yss
  bel : Below w0.heap.size w0 w
theorem cown_rd {w : World} {B n c size : Nat} {A : Option Addr} {e : TypeId} {xs : List Value} (h : w.ownsRow B e size (.slice A n c) n xs) : Rd w size A n xs := by
  obtain ⟨A', c', e', _, hr⟩ := ownsRow_form h
  injection e' with e1 _ e2
  subst e1
  exact hr
section
variable {w0 w : World} {ns : List Nd} {ps : List Nat} {A A2 : Option Addr} {cA c2 mb nb rb ob : Nat} {v : Value} {vs : List Value} {yss : List (List Int)}
theorem ClS.below {w' : World} (h : ClS w0 w ns ps A A2 cA c2 mb nb rb ob v vs yss) (hb : Below w.heap.size w w') : ClS w0 w' ns ps A A2 cA c2 mb nb rb ob v vs yss :=
  ⟨(hb.block _ (lt_of_blk h.map)).trans h.map, own_below h.nodes hb, own_below h.parts hb, (hb.block _ (lt_of_blk h.box)).trans h.box, (hb.block _ (lt_of_blk h.res)).trans h.res, h.ne, h.le, h.out.below hb, h.bel.trans (hb.mono h.bel.size)⟩
theorem ClS.lit (h : ClS w0 w ns ps A A2 cA c2 mb nb rb ob v vs yss) : LitSt w ns ps A mb := ⟨cown_rd h.nodes, h.map⟩
theorem blk_ne {w : World} {g g' : Nat} {cs cs' : Array Value} {t t' : TypeId} (h : w.heap[g]? = some (.cells cs t (0, 0))) (h' : w.heap[g']? = some (.cells cs' t' (0, 0))) (hne : t ≠ t') : g ≠ g' := fun e => by
  subst e
  rw [h] at h'
  injection h' with h'
  injection h' with _ h'
  exact hne h'
theorem ClS.add {w' : World} {v' : Value} {vs' : List Value} {yss' : List (List Int)} (h : ClS w0 w ns ps A A2 cA c2 mb nb rb ob v vs yss) (hf : Fr (fun b => b = ob ∨ ownS v b) w w') (ho : OutS w0.heap.size w' ob ps.length v' vs' yss') : ClS w0 w' ns ps A A2 cA c2 mb nb rb ob v' vs' yss' := by
  have hown := h.out.own
  have hblk := h.out.blk
  refine ⟨(hf.block _ (lt_of_blk h.map) (fun hs => ?_)).trans h.map, hf.own h.nodes (fun b hb hs => ?_), hf.own h.parts (fun b hb hs => ?_), (hf.block _ (lt_of_blk h.box) (fun hs => ?_)).trans h.box, (hf.block _ (lt_of_blk h.res) (fun hs => ?_)).trans h.res, h.ne, h.le, ho, h.bel.trans (hf.below h.bel.size (fun b hs => ?_))⟩
  · rcases hs with e | hs
    · have hm := h.map
      rw [e, hblk] at hm
      cases hm
    · exact own_map hown h.map hs
  · rcases hs with e | hs
    · exact own_type h.nodes hblk (by decide) (e ▸ hb)
    · exact own_own h.nodes hown (by decide) hb hs
  · rcases hs with e | hs
    · exact own_type h.parts hblk (by decide) (e ▸ hb)
    · exact own_own h.parts hown (by decide) hb hs
  · rcases hs with e | hs
    · exact blk_ne h.box hblk (by decide) e
    · exact own_type hown h.box (by decide) hs
  · rcases hs with e | hs
    · have := h.ne; omega
    · exact own_type hown h.res (by decide) hs
  · rcases hs with e | hs
    · rw [e]; exact h.le
    · exact (own_lt hown hs).1
end

/-- all that Clausify holds while it fills the map: the parts qs are in it. -/
structure ClP (w0 w : World) (ns : List Nd) (ps qs : List Nat) (A A2 : Option Addr) (cA c2 mb nb rb : Nat) : Prop where
  map : w.heap[mb]? = some (.map (ents (entP ns qs 0) 0).toArray (entP ns qs 0).length)
  nodes : w.ownsRow w0.heap.size 96 3 (.slice A ns.length cA) ns.length (ndCells ns)
  parts : w.ownsRow w0.heap.size 3 1 (.slice A2 ps.length c2) ps.length (ints (natI ps))
  box : w.heap[nb]? = some (.cells #[.slice A ns.length cA, .map (some mb), .int .i64 (ps.length : Int)] 94 (0, 0))
  res : w.heap[rb]? = some (.cells #[.int .i64 0, .slice none 0 0] 60 (0, 0))
  le : w0.heap.size ≤ mb
  bel : Below w0.heap.size w0 w
section
variable {w0 w : World} {ns : List Nd} {ps qs : List Nat} {A A2 : Option Addr} {cA c2 mb nb rb : Nat}
theorem ClP.below {w' : World} (h : ClP w0 w ns ps qs A A2 cA c2 mb nb rb) (hb : Below w.heap.size w w') : ClP w0 w' ns ps qs A A2 cA c2 mb nb rb :=
  ⟨(hb.block _ (lt_of_blk h.map)).trans h.map, own_below h.nodes hb, own_below h.parts hb, (hb.block _ (lt_of_blk h.box)).trans h.box, (hb.block _ (lt_of_blk h.res)).trans h.res, h.le, h.bel.trans (hb.mono h.bel.size)⟩
theorem ClP.fill {w' : World} {k : Nat} (h : ClP w0 w ns ps qs A A2 cA c2 mb nb rb) (e : w' = { w with heap := w.heap.setIfInBounds mb (.map (ents (entP ns qs 0 ++ [(nd ns k, qs.length + 1)]) 0).toArray ((entP ns qs 0).length + 1)) }) : ClP w0 w' ns ps (qs ++ [k]) A A2 cA c2 mb nb rb := by
  have hlt := lt_of_blk h.map
  have hfr : Fr (fun b => b = mb) w w' := by
    rw [e]
    refine ⟨rfl, rfl, rfl, by simp, fun b hb hnb => ?_⟩
    show (w.heap.setIfInBounds mb _)[b]? = _
    rw [Array.getElem?_setIfInBounds, if_neg (fun e => hnb e.symm)]
  have hne : ∀ {g : Nat} {cs : Array Value} {t : TypeId}, w.heap[g]? = some (.cells cs t (0, 0)) → ¬ g = mb := fun hg e => by
    rw [e, h.map] at hg
    cases hg
  refine ⟨?_, hfr.own h.nodes (fun b hb e => own_map h.nodes h.map (e ▸ hb)), hfr.own h.parts (fun b hb e => own_map h.parts h.map (e ▸ hb)), (hfr.block _ (lt_of_blk h.box) (hne h.box)).trans h.box, (hfr.block _ (lt_of_blk h.res) (hne h.res)).trans h.res, h.le, h.bel.trans (hfr.below h.bel.size (fun b hb => by rw [hb]; exact h.le))⟩
  rw [entP_snoc, Nat.zero_add, e]
  show (w.heap.setIfInBounds mb _)[mb]? = _
  rw [Array.getElem?_setIfInBounds, if_pos rfl, if_pos hlt, List.length_append]
  rfl
theorem ClS.fin {w0 w : World} {ns : List Nd} {ps : List Nat} {A A2 Av : Option Addr} {cA c2 mb nb rb ob m cv : Nat} {vs : List Value} {yss : List (List Int)} (h : ClS w0 w ns ps A A2 cA c2 mb nb rb ob (.slice Av m cv) vs yss) (hrb : w0.heap.size ≤ rb) :
    ((w.setCell ⟨rb, 0, none⟩ (.int .i64 (ps.length : Int))).setCell ⟨rb, 1, none⟩ (.slice Av m cv)).cell? ⟨rb, 0, none⟩ = some (.int .i64 (ps.length : Int)) ∧ ((w.setCell ⟨rb, 0, none⟩ (.int .i64 (ps.length : Int))).setCell ⟨rb, 1, none⟩ (.slice Av m cv)).cell? ⟨rb, 1, none⟩ = some (.slice Av m cv) ∧
    RowsS w0.heap.size ((w.setCell ⟨rb, 0, none⟩ (.int .i64 (ps.length : Int))).setCell ⟨rb, 1, none⟩ (.slice Av m cv)) (.slice Av m cv) vs yss ∧ Below w0.heap.size w0 ((w.setCell ⟨rb, 0, none⟩ (.int .i64 (ps.length : Int))).setCell ⟨rb, 1, none⟩ (.slice Av m cv)) := by
  have e1 := set_blk h.res 0 (.int .i64 (ps.length : Int))
  have e2 := set_blk e1 1 (.slice Av m cv)
  have hf : Fr (fun b => b = rb) w ((w.setCell ⟨rb, 0, none⟩ (.int .i64 (ps.length : Int))).setCell ⟨rb, 1, none⟩ (.slice Av m cv)) := ((Fr.refl (fun b => b = rb) w).setCell ⟨rb, 0, none⟩ _ (.inl rfl)).setCell ⟨rb, 1, none⟩ _ (.inl rfl)
  refine ⟨(cell_of_blk e2 0).trans rfl, (cell_of_blk e2 1).trans rfl, ⟨hf.own h.out.own (fun b hb e => own_type h.out.own h.res (by decide) (e ▸ hb)), h.out.len, fun i u ys hu hy => (h.out.rows i u ys hu hy).frC hf (fun g cur hh e => ?_)⟩, h.bel.trans (hf.below h.bel.size (fun b hb => by rw [hb]; exact hrb))⟩
  exact blk_ne hh h.res (by decide) e
end
theorem natI_getD (xs : List Nat) (i : Nat) (h : i < xs.length) : (natI xs).getD i 0 = ((xs.getD i 0 : Nat) : Int) := by
  rw [natI, List.getD_eq_getElem?_getD, List.getD_eq_getElem?_getD, List.getElem?_map, List.getElem?_eq_getElem h]
  rfl
theorem nat_getD_mem (xs : List Nat) (i : Nat) (h : i < xs.length) : xs.getD i 0 ∈ xs := by
  rw [List.getD_eq_getElem?_getD, List.getElem?_eq_getElem h]
  simp
theorem take_getD (xs : List Nat) (i : Nat) (h : i < xs.length) : xs.take (i + 1) = xs.take i ++ [xs.getD i 0] := by
  rw [List.take_succ_eq_append_getElem h, List.getD_eq_getElem?_getD, List.getElem?_eq_getElem h]
  rfl
theorem not_mem_take {xs : List Nat} (h : xs.Nodup) (i : Nat) (hi : i < xs.length) : xs.getD i 0 ∉ xs.take i := by
  intro hm
  rw [List.getD_eq_getElem?_getD, List.getElem?_eq_getElem hi, Option.getD_some] at hm
  obtain ⟨j, hj, e⟩ := List.getElem_of_mem hm
  rw [List.length_take] at hj
  rw [List.getElem_take] at e
  have := List.pairwise_iff_getElem.1 (List.nodup_iff_pairwise_ne.1 h) j i (by omega) hi (by omega)
  exact this e
theorem own_natI {w : World} {B B' : Nat} {v : Value} {ps : List Nat} (h : OwnI w B v (natI ps)) (hB : B' ≤ B) : w.ownsRow B' 3 1 v ps.length (ints (natI ps)) := by
  have h0 : w.ownsRow B 3 1 v (natI ps).length (ints (natI ps)) := h
  rw [natI_length] at h0
  exact own_more h0 hB
/-- a part's clauses, by three numbers. -/
theorem three_form (ns : List Nd) (ps : List Nat) (k : Nat) : ∃ dd aa bb : Int, threeN ns ps k = [[-dd, aa], [-dd, bb], [dd, -aa, -bb]] ∧
    (((nd ns k).k = 6 ∧ litN ns ps k = -dd ∧ litN ns ps (nd ns k).a.toNat = -aa ∧ litN ns ps (nd ns k).b.toNat = -bb) ∨ ((nd ns k).k ≠ 6 ∧ litN ns ps k = dd ∧ litN ns ps (nd ns k).a.toNat = aa ∧ litN ns ps (nd ns k).b.toNat = bb)) := by
  unfold threeN
  simp only
  by_cases h6 : (nd ns k).k = 6
  · refine ⟨-litN ns ps k, -litN ns ps (nd ns k).a.toNat, -litN ns ps (nd ns k).b.toNat, ?_, .inl ⟨h6, ?_, ?_, ?_⟩⟩
    · rw [if_pos h6]; simp
    all_goals omega
  · exact ⟨_, _, _, by rw [if_neg h6], .inr ⟨h6, rfl, rfl, rfl⟩⟩
theorem flat_take (ns : List Nd) (ps qs : List Nat) (i : Nat) (h : i < qs.length) : (qs.take (i + 1)).flatMap (threeN ns ps) = (qs.take i).flatMap (threeN ns ps) ++ threeN ns ps (qs.getD i 0) := by
  rw [take_getD _ _ h, List.flatMap_append]
  simp

set_option maxRecDepth 100000 in
set_option maxHeartbeats 8000000 in
theorem clausify_any {w0 : World} {fs : List Fm} {sv : Value} (h : FIn w0 fs sv) (w : World) (k a : Int) (n : Nat) (hn : n ≤ 140737488355328) (hb : Below w0.heap.size w0 w) (hC : checkF (.mk k a fs) n = 0) :
    Calls Try.prog 31 #[.agg #[.int .i64 k, .int .i64 a, sv], .int .i64 (n : Int)] w fun e w' => ∃ v vs, e = .returned (.tuple #[.agg #[.int .i64 ((partsN (placeF (.mk k a fs) ns0).1 (placeF (.mk k a fs) ns0).2).length : Int), v], .int .i64 0]) ∧
      RowsS w.heap.size w' v vs ((rawN (placeF (.mk k a fs) ns0).1 (placeF (.mk k a fs) ns0).2).map canonI) ∧ Below w.heap.size w w' := by
  obtain ⟨i0, hi, hz0, hz1, hz2⟩ := info_parts info_int
  have hsh := (checkF_great hC).2
  have hsz := great_size (checkF_great hC).1
  have hat := place_atoms (.mk k a fs) ns0 n hsh (atoms0 n)
  obtain ⟨vals, hvl⟩ : ∃ vals : List Bool, vals.length = n := ⟨List.replicate n false, by simp⟩
  have hin := fun W hW => intern_any h W k a n hW
  unfold internP at hin
  simp only [hC, if_true] at hin
  have hpk : Good (placeF (.mk k a fs) ns0).1 ∧ (placeF (.mk k a fs) ns0).2 < (placeF (.mk k a fs) ns0).1.length := ⟨place_good _ _ good0, place_lt _ _ good0⟩
  generalize placeF (.mk k a fs) ns0 = P at *
  obtain ⟨ns, root⟩ := P
  simp only at hat hin hpk ⊢
  obtain ⟨hG, hroot⟩ := hpk
  obtain ⟨A, c, rfl, _, _⟩ := h.form
  have hb1 : Below w.heap.size w ((w.alloc (.cells #[.int .i64 k, .int .i64 a, .slice A fs.length c] 58)).alloc (.cells #[.int .i64 0, .slice none 0 0] 60)) := ((Below.refl _ _).alloc (Nat.le_refl _) _).alloc (by simp) _
  have hin1 := hin _ (hb.trans (hb1.mono hb.size))
  have hrb : ((w.alloc (.cells #[.int .i64 k, .int .i64 a, .slice A fs.length c] 58)).alloc (.cells #[.int .i64 0, .slice none 0 0] 60)).heap[w.heap.size + 1]? = some (.cells #[.int .i64 0, .slice none 0 0] 60) := cnew_at _ _ _ (by simp)
  have HRB := Lib.hid hrb
  have HB1 := Lib.hid hb1
  have hpl := partsN_length ns root
  have hpa := fun W A' c' hr => parts_any ns root A' c' W hG hroot hr
  have hml := hG.most
  have hpm : ∀ p ∈ partsN ns root, p < ns.length := fun p hp => Nat.lt_of_le_of_lt (((partsN_mem hG hroot p).1 hp).1.le hG hroot).1 hroot
  have hkd : ∀ p ∈ partsN ns root, 5 ≤ (nd ns p).k := fun p hp => ((partsN_mem hG hroot p).1 hp).2
  have hnd := partsN_nodup ns root
  have hrl := raw_lits (truths_ok (vals := vals) hG hroot (by rw [hvl]; exact hat))
  rw [hvl] at hrl
  unfold rawN at hrl ⊢
  generalize partsN ns root = ps at *
  have hlt : ∀ W A' cA mb q, LitSt W ns ps A' mb → q < ns.length → Calls Try.prog 54 #[.agg #[.slice A' ns.length cA, .map (some mb), .int .i64 (ps.length : Int)], .int .i64 (q : Int)] W fun e w' => e = .returned (.int .i64 (litN ns ps q)) ∧ Below W.heap.size W w' := fun W A' cA mb q hL hq =>
    lit_any ns ps A' cA mb q W hG hpm (by omega) hq (fun k hk h3 => by have := hat k hk h3; omega) hL
  have HPA := Lib.hid hpa
  have HG := Lib.hid hG
  have HPM := Lib.hid hpm
  have HKD := Lib.hid hkd
  have HND := Lib.hid hnd
  have HRL := Lib.hid hrl
  have HLT := Lib.hid hlt
  clear hin hrb hb1 hpa hG hat hpm h hb hC hsh hsz hkd hnd hrl hlt
  go_enter Try.func31, Try.ntmps31
  go_upto_region 2 with (go_at_call 51; refine hin1.mono ?_; clear hin1; rintro e w1 ⟨v1, rfl, ho1, hb2⟩; obtain ⟨A1, c1, rfl, _, _⟩ := ownsRow_form ho1)
  have hb21 := HB1.out.trans (hb2.mono HB1.out.size)
  have ho1' := own_more ho1 HB1.out.size
  have hrb1 := (hb2.block _ (lt_of_blk HRB.out)).trans HRB.out
  have hpc := HPA.out w1 A1 c1 (cown_rd ho1)
  clear ho1 hb2
  go_upto_region 5 with (go_at_call 52; refine hpc.mono ?_; clear hpc; rintro e w2 ⟨v2, rfl, hp2, hb3⟩; have hp2' := own_natI hp2 hb21.size; obtain ⟨A2, c2, rfl, _, _⟩ := ownsRow_form hp2'; clear hp2)
  have hb31 := hb21.trans (hb3.mono hb21.size)
  have ho2 := own_below ho1' hb3
  have hrb2 := (hb3.block _ (lt_of_blk hrb1)).trans hrb1
  clear hb21 ho1' hrb1 hb3 HB1 HRB
  have hmm := @run_makeMap Try.prog
  go_wp2_with fail
  clear hmm
  have hp3 : ClP w ((w2.alloc (.map #[] 0)).alloc (.cells #[.slice A1 ns.length c1, .map (some w2.heap.size), .int .i64 (ps.length : Int)] 94)) ns ps [] A1 A2 c1 c2 w2.heap.size (w2.heap.size + 1) (w.heap.size + 1) := by
    have hx := ((Below.refl w2.heap.size w2).alloc (Nat.le_refl _) (.map #[] 0)).alloc (by simp) (.cells #[.slice A1 ns.length c1, .map (some w2.heap.size), .int .i64 (ps.length : Int)] 94)
    exact ⟨(alloc_old _ (by simp)).trans (heap_alloc_new w2 (.map #[] 0)), own_below ho2 hx, own_below hp2' hx, cnew_at _ _ _ (by simp), (hx.block _ (lt_of_blk hrb2)).trans hrb2, hb31.size, hb31.trans (hx.mono hb31.size)⟩
  have HP3 := Lib.hid hp3
  clear hp3 ho2 hp2' hrb2 hb31
  go_loopw [42] (fun x wr => ∃ q, q ≤ ps.length ∧ x = .int .i64 (q : Int) ∧ ClP w wr ns ps (ps.take q) A1 A2 c1 c2 w2.heap.size (w2.heap.size + 1) (w.heap.size + 1)) (fun x _ => ps.length - (intOf x).toNat)
  case atStart => exact ⟨0, Nat.zero_le _, rfl, HP3.out⟩
  case round =>
    obtain ⟨q, hq, rfl, hst⟩ := hrel
    by_cases hlt : q < ps.length
    · obtain ⟨b2, o2, rfl, x0⟩ := (cown_rd hst.parts).int q hlt (natI_length ps)
      rw [natI_getD ps q hlt] at x0
      have hkm := nat_getD_mem ps q hlt
      have hnt := not_mem_take HND.out q hlt
      have htk := take_getD ps q hlt
      generalize ps.getD q 0 = kk at *
      have hkl := HPM.out kk hkm
      have hkl' : (kk : Int) < (ns.length : Int) := by omega
      obtain ⟨b1, o1, rfl, y0, y1, y2, hb1⟩ := (cown_rd hst.nodes).nd3 kk hkl rfl
      have hnone := entP_none HG.out hkl (ps.take q) (fun p hp => HPM.out p (List.mem_of_mem_take hp)) hnt
      have htl : (ps.take q).length = q := by rw [List.length_take]; omega
      have hx := (Below.refl wr.heap.size wr).alloc (Nat.le_refl _) (.cells #[.int .i64 (nd ns kk).k, .int .i64 (nd ns kk).a, .int .i64 (nd ns kk).b] 96)
      have hst1 := hst.below hx
      have hbx := heap_alloc_new wr (.cells #[.int .i64 (nd ns kk).k, .int .i64 (nd ns kk).a, .int .i64 (nd ns kk).b] 96)
      go_upto_region 10 with fail
      obtain ⟨W1, hW1⟩ : ∃ W, W = wr.alloc (.cells #[.int .i64 (nd ns kk).k, .int .i64 (nd ns kk).a, .int .i64 (nd ns kk).b] 96) := ⟨_, rfl⟩
      rw [← hW1] at hst1 hbx ⊢
      have hs := run_store3 w2.heap.size _ (nd ns kk) (q + 1) W1 hst1.map hnone
      obtain ⟨W2, hW2⟩ : ∃ W : World, W = { W1 with heap := W1.heap.setIfInBounds w2.heap.size (.map (ents (entP ns (ps.take q) 0 ++ [(nd ns kk, q + 1)]) 0).toArray ((entP ns (ps.take q) 0).length + 1)) } := ⟨_, rfl⟩
      rw [← hW2] at hs
      have hst2 := hst1.fill (k := kk) (w' := W2) (by rw [htl]; exact hW2)
      rw [← htk] at hst2
      have z0 := cell_of_blk hbx 0
      have z1 := cell_of_blk hbx 1
      have z2 := cell_of_blk hbx 2
      have n1 : W1.cell? ⟨w2.heap.size + 1, 1, none⟩ = some (.map (some w2.heap.size)) := (cell_of_blk hst1.box 1).trans rfl
      simp at z0 z1 z2
      have hs' : (Instr.mapUpdate 92 (.map (some w2.heap.size)) (.agg #[.int .i64 (nd ns kk).k, .int .i64 (nd ns kk).a, .int .i64 (nd ns kk).b]) (.int .i64 ((q : Int) + 1))).run Try.prog W1 = .ok () W2 := hs
      have HST := Lib.hid hst2
      clear hst hst1 hst2 hs hW1 hW2 hbx hnone hnt htk hkm hx y0 y1 y2 x0 htl
      generalize nd ns kk = X at *
      go_wp2_with fail
      go_roundw
      case rel => exact ⟨q + 1, by omega, by go_num, HST.out⟩
      case measure => simp [intOf]; omega
    · obtain rfl : q = ps.length := by omega
      rw [List.take_of_length_le (Nat.le_refl _)] at hst
      have HST := Lib.hid hst
      have hx := (Below.refl wr.heap.size wr).alloc (Nat.le_refl _) (.cells #[.int .i64 (ps.length : Int), .slice none 0 0] 60)
      have hc0 : ClS w (wr.alloc (.cells #[.int .i64 (ps.length : Int), .slice none 0 0] 60)) ns ps A1 A2 c1 c2 w2.heap.size (w2.heap.size + 1) (w.heap.size + 1) wr.heap.size (.slice none 0 0) [] [] := by
        have h1 := hst.below hx
        exact ⟨h1.map, h1.nodes, h1.parts, h1.box, h1.res, lt_of_blk hst.res, hst.bel.size, ⟨heap_alloc_new wr _, World.ownsRow_nil _ _ _ _, rfl, fun i u ys hu => by simp at hu⟩, h1.bel⟩
      have HC0 := Lib.hid hc0
      clear hst HP3 HST hx hc0
      generalize hob : wr.heap.size = ob at *
      go_wp2_with fail
      go_loopw [69] (fun x wr => ∃ (q : Nat) (v : Value) (vs : List Value), q ≤ ps.length ∧ x = .int .i64 (q : Int) ∧ ClS w wr ns ps A1 A2 c1 c2 w2.heap.size (w2.heap.size + 1) (w.heap.size + 1) ob v vs (((ps.take q).flatMap (threeN ns ps)).map canonI)) (fun x _ => ps.length - (intOf x).toNat)
      case atStart => exact ⟨0, _, _, Nat.zero_le _, rfl, HC0.out⟩
      case round =>
        obtain ⟨q, v, vs, hq, rfl, hst⟩ := hrel
        clear hob HC0
        by_cases hlt : q < ps.length
        · obtain ⟨b2, o2, rfl, x0⟩ := (cown_rd hst.parts).int q hlt (natI_length ps)
          rw [natI_getD ps q hlt] at x0
          have hkm := nat_getD_mem ps q hlt
          have hft := flat_take ns ps ps q hlt
          have hvl2 : vs.length = 3 * q := by rw [hst.out.len, List.length_map, flat_len, List.length_take]; omega
          generalize ps.getD q 0 = kk at *
          have hkl := HPM.out kk hkm
          have hk5 := HKD.out kk hkm
          have hkl' : (kk : Int) < (ns.length : Int) := by omega
          obtain ⟨p1, p2, p3, p4, _⟩ := good_kids HG.out hkl (by omega)
          obtain ⟨p5, p6, p7⟩ := p4 (by omega)
          obtain ⟨b1, o1, rfl, y0, y1, y2, hb1⟩ := (cown_rd hst.nodes).nd3 kk hkl rfl
          obtain ⟨dd, aa, bb, h3, hcs⟩ := three_form ns ps kk
          have hl1 := fun W hL => HLT.out W (some ⟨b1, o1, none⟩) c1 w2.heap.size kk hL hkl
          have hl2 := fun W hL => HLT.out W (some ⟨b1, o1, none⟩) c1 w2.heap.size (nd ns kk).a.toNat hL (by omega)
          have hl3 := fun W hL => HLT.out W (some ⟨b1, o1, none⟩) c1 w2.heap.size (nd ns kk).b.toNat hL (by omega)
          have hm1 := HRL.out [-dd, aa] (by rw [List.mem_append, List.mem_flatMap]; exact .inl ⟨kk, hkm, by rw [h3]; simp⟩)
          have hm2 := HRL.out [-dd, bb] (by rw [List.mem_append, List.mem_flatMap]; exact .inl ⟨kk, hkm, by rw [h3]; simp⟩)
          have hd1 := hm1.2 (-dd) (by simp)
          have ha1 := hm1.2 aa (by simp)
          have hb1' := hm2.2 bb (by simp)
          have hpl3 : ps.length ≤ 20000 := by omega
          have hdd : -1000000000000000 ≤ dd ∧ dd ≤ 1000000000000000 ∧ dd ≠ 0 := by omega
          have haa : -1000000000000000 ≤ aa ∧ aa ≤ 1000000000000000 ∧ aa ≠ 0 := by omega
          have hbb : -1000000000000000 ≤ bb ∧ bb ≤ 1000000000000000 ∧ bb ≠ 0 := by omega
          have HFT := Lib.hid (hft.trans (by rw [h3]))
          clear hm1 hm2 hd1 ha1 hb1' hft h3 hkm p4
          obtain ⟨a', ea⟩ : ∃ a' : Nat, (nd ns kk).a = a' := ⟨(nd ns kk).a.toNat, by omega⟩
          obtain ⟨b', eb⟩ : ∃ b' : Nat, (nd ns kk).b = b' := ⟨(nd ns kk).b.toNat, by omega⟩
          rw [ea, Int.toNat_natCast] at hcs
          rw [eb, Int.toNat_natCast] at hcs
          rw [ea, Int.toNat_natCast] at hl2
          rw [eb, Int.toNat_natCast] at hl3
          rw [ea] at y1
          rw [eb] at y2
          generalize (nd ns kk).k = xk at *
          generalize litN ns ps kk = D at *
          generalize litN ns ps a' = AA at *
          generalize litN ns ps b' = BB at *
          have HST := Lib.hid hst
          have hcl : ∀ W', Below wr.heap.size wr W' → W'.cell? ⟨w2.heap.size + 1, 0, none⟩ = some (.slice (some ⟨b1, o1, none⟩) ns.length c1) ∧ W'.cell? ⟨w2.heap.size + 1, 1, none⟩ = some (.map (some w2.heap.size)) ∧ W'.cell? ⟨w2.heap.size + 1, 2, none⟩ = some (.int .i64 (ps.length : Int)) ∧ W'.cell? ⟨b1, o1 + kk * 3 + 1, none⟩ = some (.int .i64 (a' : Int)) ∧ W'.cell? ⟨b1, o1 + kk * 3 + 2, none⟩ = some (.int .i64 (b' : Int)) := fun W' hW' => by
            have h1 := HST.out.below hW'
            exact ⟨(cell_of_blk h1.box 0).trans rfl, (cell_of_blk h1.box 1).trans rfl, (cell_of_blk h1.box 2).trans rfl, (hW'.cell (p := ⟨b1, _, none⟩) hb1).trans y1, (hW'.cell (p := ⟨b1, _, none⟩) hb1).trans y2⟩
          have HCS := Lib.hid hcl
          have HCASE := Lib.hid hcs
          obtain ⟨n0, n1, n2, _, _⟩ := hcl wr (Below.refl _ _)
          clear hst hcl hcs ea eb p1 p2 p3 p5 p6 p7
          have hc1 := fun W (hW : Below wr.heap.size wr W) => hl1 W (HST.out.below hW).lit
          have hc2 := fun W (hW : Below wr.heap.size wr W) => hl2 W (HST.out.below hW).lit
          have hc3 := fun W (hW : Below wr.heap.size wr W) => hl3 W (HST.out.below hW).lit
          clear hl1 hl2 hl3
          go_upto_region 17 with fail
          go_cut [18, 19, 20] (fun x y z wx => x = .int .i64 D ∧ y = .int .i64 AA ∧ z = .int .i64 BB ∧ Below wr.heap.size wr wx)
          case first =>
            go_region_held3 (fun W' => W'.cell? ⟨w2.heap.size + 1, 0, none⟩ = some (.slice (some ⟨b1, o1, none⟩) ns.length c1) ∧ W'.cell? ⟨w2.heap.size + 1, 1, none⟩ = some (.map (some w2.heap.size)) ∧ W'.cell? ⟨w2.heap.size + 1, 2, none⟩ = some (.int .i64 (ps.length : Int)) ∧ W'.cell? ⟨b1, o1 + kk * 3 + 1, none⟩ = some (.int .i64 (a' : Int)) ∧ W'.cell? ⟨b1, o1 + kk * 3 + 2, none⟩ = some (.int .i64 (b' : Int))) (first | exact HCS.out _ hb5 | exact HCS.out _ hb4 | exact HCS.out _ hb3 | exact HCS.out _ (below_drewA (Below.refl _ _)) | exact HCS.out _ (Below.refl _ _)) (first | (go_at_call 54; refine (hc1 _ (below_drewA (Below.refl _ _))).mono ?_; clear hc1; rintro e w3 ⟨rfl, hx⟩; have hb3 : Below wr.heap.size wr w3 := (below_drewA (Below.refl wr.heap.size wr)).trans (hx.mono (Nat.le_refl _)); clear hx) | (go_at_call 54; refine (hc2 _ hb3).mono ?_; clear hc2; rintro e w4 ⟨rfl, hx⟩; have hb4 := bstepP hb3 hx; clear hx) | (go_at_call 54; refine (hc3 _ hb4).mono ?_; clear hc3; rintro e w5 ⟨rfl, hx⟩; have hb5 := bstepP hb4 hx; clear hx))
            all_goals
              go_wp2_with fail
              go_meet
              exact ⟨rfl, rfl, rfl, hb5⟩
          case rest =>
          obtain ⟨rfl, rfl, rfl, hbc⟩ := hcut
          obtain ⟨wq, rfl⟩ : ∃ x, x = wc := ⟨_, rfl⟩
          have hst := HST.out.below hbc
          have y0' := (hbc.cell (p := ⟨b1, o1 + kk * 3, none⟩) hb1).trans y0
          have HSQ := Lib.hid hst
          clear hst hbc HST HCS hc1 hc2 hc3 n0 n1 n2 x0 y0 y1 y2 hb1
          go_upto_if 95 with fail
          go_cut [18, 19, 20] (fun x y z wx => x = .int .i64 dd ∧ y = .int .i64 aa ∧ z = .int .i64 bb ∧ wx = wq)
          case first =>
            rcases HCASE.out with ⟨h6, rfl, rfl, rfl⟩ | ⟨h6, rfl, rfl, rfl⟩
            · have h6' : (xk == 6) = true := by simpa using h6
              clear h6 HCASE
              go_wp2_with fail
              go_meet
              exact ⟨by first | rfl | go_num, by first | rfl | go_num, by first | rfl | go_num, rfl⟩
            · have h6' : (xk == 6) = false := by simpa using h6
              clear h6 HCASE
              go_wp2_with fail
              go_meet
              exact ⟨rfl, rfl, rfl, rfl⟩
          case rest =>
          obtain ⟨rfl, rfl, rfl, hwc⟩ := hcut
          obtain rfl := hwc.symm
          clear hwc HCASE y0'
          have hlen2 : vs.length ≤ 60000 := by omega
          have hx := (Below.refl wq.heap.size wq).alloc (Nat.le_refl _) (.cells #[.int .i64 (-dd), .int .i64 aa] 3)
          have hst1 := HSQ.out.below hx
          have hcall := add_any w.heap.size _ ob ps.length _ vs _ [-dd, aa] (some ⟨wq.heap.size, 0, none⟩) 2 2 rfl hst1.out hst1.bel.size (by intro l hl; simp only [List.mem_cons, List.not_mem_nil, or_false] at hl; unfold IsLit; omega) (by simp) (Nat.le_refl _) (rd_lit wq #[.int .i64 (-dd), .int .i64 aa] 3) (by first | omega | (simp only [List.length_append, List.length_cons, List.length_nil]; omega))
          have HS1 := Lib.hid hst1
          clear hx hst1
          go_upto_region 21 with (go_at_call 53; refine hcall.mono ?_; clear hcall; rintro e wa ⟨rfl, va, ua, hout, hfr⟩)
          have HSA := Lib.hid (HS1.out.add hfr hout)
          clear hout hfr HS1 HSQ
          have hx := (Below.refl wa.heap.size wa).alloc (Nat.le_refl _) (.cells #[.int .i64 (-dd), .int .i64 bb] 3)
          have hst1 := HSA.out.below hx
          have hcall := add_any w.heap.size _ ob ps.length _ (vs ++ [ua]) _ [-dd, bb] (some ⟨wa.heap.size, 0, none⟩) 2 2 rfl hst1.out hst1.bel.size (by intro l hl; simp only [List.mem_cons, List.not_mem_nil, or_false] at hl; unfold IsLit; omega) (by simp) (Nat.le_refl _) (rd_lit wa #[.int .i64 (-dd), .int .i64 bb] 3) (by first | omega | (simp only [List.length_append, List.length_cons, List.length_nil]; omega))
          have HS1 := Lib.hid hst1
          clear hx hst1
          go_upto_region 22 with (go_at_call 53; refine hcall.mono ?_; clear hcall; rintro e wb ⟨rfl, vb, ub, hout, hfr⟩)
          have HSB := Lib.hid (HS1.out.add hfr hout)
          clear hout hfr HS1 HSA
          have hx := (Below.refl wb.heap.size wb).alloc (Nat.le_refl _) (.cells #[.int .i64 dd, .int .i64 (-aa), .int .i64 (-bb)] 3)
          have hst1 := HSB.out.below hx
          have hcall := add_any w.heap.size _ ob ps.length _ (vs ++ [ua] ++ [ub]) _ [dd, -aa, -bb] (some ⟨wb.heap.size, 0, none⟩) 3 3 rfl hst1.out hst1.bel.size (by intro l hl; simp only [List.mem_cons, List.not_mem_nil, or_false] at hl; unfold IsLit; omega) (by simp) (Nat.le_refl _) (rd_lit wb #[.int .i64 dd, .int .i64 (-aa), .int .i64 (-bb)] 3) (by first | omega | (simp only [List.length_append, List.length_cons, List.length_nil]; omega))
          have HS1 := Lib.hid hst1
          clear hx hst1
          go_upto_region 23 with (go_at_call 53; refine hcall.mono ?_; clear hcall; rintro e we ⟨rfl, ve, ue, hout, hfr⟩)
          have HSE := Lib.hid (HS1.out.add hfr hout)
          clear hout hfr HS1 HSB
          go_wp2_with fail
          go_roundw
          case rel => exact ⟨q + 1, _, _, by omega, by go_num, by rw [HFT.out]; simpa using HSE.out⟩
          case measure => simp [intOf]; omega
        · obtain rfl : q = ps.length := by omega
          rw [List.take_of_length_le (Nat.le_refl _)] at hst
          have hvl2 : vs.length ≤ 60000 := by rw [hst.out.len, List.length_map, flat_len]; omega
          have HST := Lib.hid hst
          clear hst hlt hq
          by_cases h0 : root = 0
          · have h0' : ((root : Int) == 0) = true := by simp [h0]
            have hla : lastN ns ps root = [[]] := by unfold lastN; rw [if_pos h0]
            have HLA := Lib.hid hla
            have hcall := add_any w.heap.size wr ob ps.length _ vs _ [] none 0 0 rfl HST.out.out HST.out.bel.size (by intro l hl; simp at hl) (by simp) (Nat.le_refl _) Rd.none_ (by omega)
            clear h0 hla
            go_upto_region 29 with (go_at_call 53; refine hcall.mono ?_; clear hcall; rintro e we ⟨rfl, ve, ue, hout, hfr⟩)
            have HSE := Lib.hid (HST.out.add hfr hout)
            clear hout hfr HST
            obtain ⟨Av, cv, rfl, _, _⟩ := ownsRow_form HSE.out.out.own
            have hfin := HSE.out.fin (by omega)
            have x0 := (cell_of_blk HSE.out.out.blk 0).trans rfl
            have x1 := (cell_of_blk HSE.out.out.blk 1).trans rfl
            have r0 := (cell_of_blk HSE.out.res 0).trans rfl
            have r1 := (cell_of_blk HSE.out.res 1).trans rfl
            have p0 := frozen_of_blk HSE.out.res 0
            have p1 := frozen_of_blk HSE.out.res 1
            go_wp2_with fail
            try simp only [List.length_append, List.length_cons, List.length_nil, Nat.zero_add] at hfin
            obtain ⟨k0, k1, hr5, hb5⟩ := hfin
            refine bodyPost_ret (v := .tuple #[.agg #[.int .i64 (ps.length : Int), .slice Av (vs.length + 1) cv], .int .i64 0]) (by simp [results, Try.results31, go_sem, k0, k1]) rfl ?_
            exact ⟨_, _, rfl, by rw [HLA.out]; simpa using hr5, hb5⟩
          · by_cases h1 : root = 1
            · have h0' : ((root : Int) == 0) = false := by simp [h1]
              have h1' : ((root : Int) == 1) = true := by simp [h1]
              have hla : lastN ns ps root = [] := by unfold lastN; rw [if_neg h0, if_pos h1]
              have HLA := Lib.hid hla
              clear h0 h1 hla
              go_upto_region 29 with fail
              obtain ⟨Av, cv, rfl, _, _⟩ := ownsRow_form HST.out.out.own
              have hfin := HST.out.fin (by omega)
              have x0 := (cell_of_blk HST.out.out.blk 0).trans rfl
              have x1 := (cell_of_blk HST.out.out.blk 1).trans rfl
              have r0 := (cell_of_blk HST.out.res 0).trans rfl
              have r1 := (cell_of_blk HST.out.res 1).trans rfl
              have p0 := frozen_of_blk HST.out.res 0
              have p1 := frozen_of_blk HST.out.res 1
              go_wp2_with fail
              try simp only [List.length_append, List.length_cons, List.length_nil, Nat.zero_add] at hfin
              obtain ⟨k0, k1, hr5, hb5⟩ := hfin
              refine bodyPost_ret (v := .tuple #[.agg #[.int .i64 (ps.length : Int), .slice Av (vs.length) cv], .int .i64 0]) (by simp [results, Try.results31, go_sem, k0, k1]) rfl ?_
              exact ⟨_, _, rfl, by rw [HLA.out]; simpa using hr5, hb5⟩
            · have h0' : ((root : Int) == 0) = false := by simpa using h0
              have h1' : ((root : Int) == 1) = false := by
                rw [beq_eq_false_iff_ne]
                omega
              have hla : lastN ns ps root = [[litN ns ps root]] := by unfold lastN; rw [if_neg h0, if_neg h1]
              have HLA := Lib.hid hla
              have hm := (HRL.out [litN ns ps root] (by rw [List.mem_append, hla]; exact .inr (by simp))).2 _ (List.mem_singleton.2 rfl)
              have hlc := HLT.out wr A1 c1 w2.heap.size root HST.out.lit hroot
              have n0 := (cell_of_blk HST.out.box 0).trans rfl
              have n1 := (cell_of_blk HST.out.box 1).trans rfl
              have n2 := (cell_of_blk HST.out.box 2).trans rfl
              generalize litN ns ps root = L at *
              clear h0 h1 hla
              go_upto_region 25 with fail
              go_wp2_with (first | (go_at_call 54; refine hlc.mono ?_; clear hlc; rintro e w7 ⟨rfl, hb7⟩; have hst7 := HST.out.below hb7; have hx := (Below.refl w7.heap.size w7).alloc (Nat.le_refl _) (.cells #[.int .i64 L] 3); have hst8 := hst7.below hx; have hcall := add_any w.heap.size _ ob ps.length _ vs _ [L] (some ⟨w7.heap.size, 0, none⟩) 1 1 rfl hst8.out hst8.bel.size (by intro l hl; simp only [List.mem_cons, List.not_mem_nil, or_false] at hl; unfold IsLit; omega) (by simp) (Nat.le_refl _) (rd_lit w7 #[.int .i64 L] 3) (by omega); have HS8 := Lib.hid hst8; clear hst7 hst8 hx hb7) | (go_at_call 53; refine hcall.mono ?_; clear hcall; rintro e we ⟨rfl, ve, ue, hout, hfr⟩; have HSE := Lib.hid (HS8.out.add hfr hout); clear hout hfr HS8 HST; obtain ⟨Av, cv, rfl, _, _⟩ := ownsRow_form HSE.out.out.own; have hfin := HSE.out.fin (by omega); have x0 := (cell_of_blk HSE.out.out.blk 0).trans rfl; have x1 := (cell_of_blk HSE.out.out.blk 1).trans rfl; have r0 := (cell_of_blk HSE.out.res 0).trans rfl; have r1 := (cell_of_blk HSE.out.res 1).trans rfl; have p0 := frozen_of_blk HSE.out.res 0; have p1 := frozen_of_blk HSE.out.res 1))
              try simp only [List.length_append, List.length_cons, List.length_nil, Nat.zero_add] at hfin
              obtain ⟨k0, k1, hr5, hb5⟩ := hfin
              refine bodyPost_ret (v := .tuple #[.agg #[.int .i64 (ps.length : Int), .slice Av (vs.length + 1) cv], .int .i64 0]) (by simp [results, Try.results31, go_sem, k0, k1]) rfl ?_
              exact ⟨_, _, rfl, by rw [HLA.out]; simpa using hr5, hb5⟩
end Go.Proofs.Ytbcabcdgblmnkaa
