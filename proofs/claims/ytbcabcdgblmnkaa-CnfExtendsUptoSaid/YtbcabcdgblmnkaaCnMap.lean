/- A map of a node's kind and numbers to its part's number: what it answers, and how it grows. -/
import Derived.Test.YtbcabcdgblmnkaaCnParts
import Derived.WideKeyRuns
import Derived.Test.YtbcabcdgblmnkaaClCanon
namespace Go.Proofs.Ytbcabcdgblmnkaa
open Go.RowKit
set_option linter.unusedVariables false
set_option linter.unusedSimpArgs false

theorem run_part_intC (cs : Array Value) (i : Nat) (v : Value) (W : World) (hv : cs[i]? = some v) : (part 3 cs i).run Try.prog W = .ok v W := by
  have ha : (isAgg 3).run Try.prog W = .ok false W := by kernel_rfl
  simp [part, ha, hv, Result.andThen]
theorem run_eql3 (x y : Nd) (w : World) : (Op.equal 97 x.val y.val).run Try.prog w = .ok (decide (x = y)) w := by
  have hi := Try.underlying3
  have hce : Try.prog.cellsOf 3 = 1 := by kernel_rfl
  obtain ⟨ti, hti, _, _, _⟩ := info_parts info_int
  have hua := Try.underlying97
  have hpi := run_part_intC
  obtain ⟨xk, xa, xb⟩ := x
  obtain ⟨yk, ya, yb⟩ := y
  unfold Nd.val
  simp only [Op.equal, Op.maxDepth]
  rw [run_equalIn_array w _ _ _ hua hti, hce, show List.range 3 = [0, 1, 2] from rfl]
  simp only [Op.eqItems]
  simp [hpi _ 0 (.int .i64 xk), hpi _ 1 (.int .i64 xa), hpi _ 2 (.int .i64 xb), hpi _ 0 (.int .i64 yk), hpi _ 1 (.int .i64 ya), hpi _ 2 (.int .i64 yb), run_equalIn_int _ _ _ _ _ _ _ hi, Result.andThen]
  by_cases h1 : xk = yk <;> by_cases h2 : xa = ya <;> by_cases h3 : xb = yb <;> simp [h1, h2, h3]
theorem run_findAsking3 (n : Nd) (w : World) (ns : List (Nd × Nat)) (i : Nat) :
    (Instr.findAsking 97 n.val (ents ns i) i).run Try.prog w = .ok ((pfind ns n i).map fun q => (q.1, .int .i64 (q.2 : Int))) w := by
  induction ns generalizing i with
  | nil => simp [ents, Instr.findAsking, pfind]
  | cons m ns ih =>
    simp only [ents, Instr.findAsking, Sem.run_bind, run_eql3 n m.1 w, Result.andThen_ok]
    by_cases h : n = m.1
    · simp [h, pfind]
    · simp only [h, decide_false, Bool.false_eq_true, if_false]
      rw [ih]
      simp [pfind, h]
theorem run_checkKey3 (e : Bool) (n : Nd) (w : World) : (Instr.checkKey e 10000 97 n.val).run Try.prog w = .ok () w := by
  have hpi := run_part_intC
  have hk : ∀ (x : Int) (d : Nat) (W : World), (Instr.checkKey e (d + 1) 3 (.int .i64 x)).run Try.prog W = .ok () W := by
    intro x d W
    simp [Instr.checkKey, run_underlying Try.underlying3]
  have hka : ∀ (a b c : Int) (k : Nat) (W : World), (Instr.checkKey e (k + 1 + 1) 97 (.agg #[.int .i64 a, .int .i64 b, .int .i64 c])).run Try.prog W = .ok () W := by
    intro a b c k W
    have hs : (sizeOf 3).run Try.prog W = .ok 1 W := by kernel_rfl
    generalize hd : k + 1 = d1 at *
    have hk1 : ∀ x W, (Instr.checkKey e d1 3 (.int .i64 x)).run Try.prog W = .ok () W := fun x W => hd ▸ hk x k W
    simp only [Instr.checkKey, Sem.run_bind, run_underlying Try.underlying97, Result.andThen_ok]
    simp only [Std.Legacy.Range.forIn_eq_forIn_range', Std.Legacy.Range.size, Nat.sub_zero, Nat.add_one_sub_one, Nat.div_one]
    rw [show List.range' 0 3 = [0, 1, 2] from rfl]
    simp [hs, hpi _ 0 (.int .i64 a), hpi _ 1 (.int .i64 b), hpi _ 2 (.int .i64 c), hk1, Result.andThen]
  obtain ⟨k, a, b⟩ := n
  exact hka k a b 9998 w
set_option maxRecDepth 100000 in
theorem run_look3 (mb : Nat) (ps : List (Nd × Nat)) (cl : Nat) (n : Nd) (w : World) (hm : w.heap[mb]? = some (.map (ents ps 0).toArray cl)) :
    (Instr.lookup 92 (.map (some mb)) n.val false).run Try.prog w = .ok (.int .i64 (((plook ps n).getD 0 : Nat) : Int)) w := by
  have hw : (match Try.prog.underlying 97 with | some (.array _ _) | some (.struct _) => true | _ => false) = true := by rw [Try.underlying97]
  have hz : (zeroValue 3).run Try.prog w = .ok (.int .i64 0) w := by kernel_rfl
  have hg : (getObj mb).run Try.prog w = .ok (.map (ents ps 0).toArray cl) w := by simp [getObj, Sem.run, hm]
  simp only [Instr.lookup, Sem.run_bind, run_underlying Try.underlying92, Result.andThen_ok, hg, Sem.run_pure, run_checkKey3]
  rw [run_findKey_eq w hw, run_findAsking3]
  unfold plook
  cases h : pfind ps n 0 with
  | none => simp [hz]
  | some q => simp
set_option maxRecDepth 100000 in
theorem run_store3 (mb : Nat) (ps : List (Nd × Nat)) (n : Nd) (v : Nat) (w : World) (hm : w.heap[mb]? = some (.map (ents ps 0).toArray ps.length)) (hn : plook ps n = none) :
    (Instr.mapUpdate 92 (.map (some mb)) n.val (.int .i64 (v : Int))).run Try.prog w =
      .ok () { w with heap := w.heap.setIfInBounds mb (.map (ents (ps ++ [(n, v)]) 0).toArray (ps.length + 1)) } := by
  have hw : (match Try.prog.underlying 97 with | some (.array _ _) | some (.struct _) => true | _ => false) = true := by rw [Try.underlying97]
  have hg : (getObj mb).run Try.prog w = .ok (.map (ents ps 0).toArray ps.length) w := by simp [getObj, Sem.run, hm]
  have hn' : pfind ps n 0 = none := by simpa [plook] using hn
  simp only [Instr.mapUpdate, Sem.run_bind, run_underlying Try.underlying92, Result.andThen_ok, hg, Sem.run_pure, run_checkKey3]
  rw [run_findKey_eq w hw, run_findAsking3, hn']
  simp only [Option.map_none, Result.andThen_ok]
  rw [ents_snoc]
  simp [setObj, Sem.run, hm]

/-- the map's entries: each part by its node, numbered from j + 1. -/
def entP (ns : List Nd) : List Nat → Nat → List (Nd × Nat)
  | [], _ => []
  | k :: ks, j => (nd ns k, j + 1) :: entP ns ks (j + 1)
theorem entP_snoc (ns : List Nd) (ps : List Nat) (k j : Nat) : entP ns (ps ++ [k]) j = entP ns ps j ++ [(nd ns k, j + ps.length + 1)] := by
  induction ps generalizing j with
  | nil => rfl
  | cons p ps ih =>
    rw [List.cons_append, entP, ih, entP, List.cons_append, List.length_cons]
    have e : j + 1 + ps.length + 1 = j + (ps.length + 1) + 1 := by omega
    rw [e]
theorem entP_length (ns : List Nd) (ps : List Nat) (j : Nat) : (entP ns ps j).length = ps.length := by
  induction ps generalizing j with
  | nil => rfl
  | cons p ps ih => rw [entP, List.length_cons, ih, List.length_cons]
theorem entP_find {ns : List Nd} (g : Good ns) {k : Nat} (hk : k < ns.length) (ps : List Nat) (hp : ∀ p ∈ ps, p < ns.length) (i j : Nat) : pfind (entP ns ps j) (nd ns k) i = (ps.findIdx? fun p => p == k).map fun q => (i + q, j + q + 1) := by
  induction ps generalizing i j with
  | nil => rfl
  | cons p ps ih =>
    rw [entP, pfind, List.findIdx?_cons]
    have hpl := hp p (by simp)
    by_cases h : p = k
    · subst h
      simp
    · have hne : ¬ nd ns k = nd ns p := by
        intro e
        rcases Nat.lt_or_ge k p with h' | h'
        · exact g.one k p h' hpl e
        · exact g.one p k (by omega) hk e.symm
      have hb : (p == k) = false := by simpa using h
      simp only [hne, if_false, hb, Bool.false_eq_true]
      rw [ih (fun q hq => hp q (by simp [hq]))]
      cases ps.findIdx? fun p => p == k with
      | none => rfl
      | some q =>
        simp
        omega
theorem entP_look {ns : List Nd} (g : Good ns) {k : Nat} (hk : k < ns.length) (ps : List Nat) (hp : ∀ p ∈ ps, p < ns.length) : (((plook (entP ns ps 0) (nd ns k)).getD 0 : Nat) : Int) = posN ps k := by
  unfold plook posN
  rw [entP_find g hk ps hp]
  cases ps.findIdx? fun p => p == k with
  | none => rfl
  | some q => simp
theorem entP_none {ns : List Nd} (g : Good ns) {k : Nat} (hk : k < ns.length) (ps : List Nat) (hp : ∀ p ∈ ps, p < ns.length) (hn : k ∉ ps) : plook (entP ns ps 0) (nd ns k) = none := by
  unfold plook
  rw [entP_find g hk ps hp]
  have : ps.findIdx? (fun p => p == k) = none := by
    rw [List.findIdx?_eq_none_iff]
    intro x hx
    simp
    rintro rfl
    exact hn hx
  rw [this]
  rfl
end Go.Proofs.Ytbcabcdgblmnkaa

namespace Go.Proofs.Ytbcabcdgblmnkaa
open Go.RowKit
set_option linter.unusedVariables false
set_option linter.unusedSimpArgs false

/-- what a namer reads: the nodes, and the map of the parts. -/
structure LitSt (w : World) (ns : List Nd) (ps : List Nat) (A : Option Addr) (mb : Nat) : Prop where
  rd : Rd w 3 A ns.length (ndCells ns)
  map : w.heap[mb]? = some (.map (ents (entP ns ps 0) 0).toArray (entP ns ps 0).length)
theorem LitSt.below {w w' : World} {ns : List Nd} {ps : List Nat} {A : Option Addr} {mb : Nat} (h : LitSt w ns ps A mb) (hb : Below w.heap.size w w') : LitSt w' ns ps A mb :=
  ⟨h.rd.below hb, (hb.block _ (lt_of_blk h.map)).trans h.map⟩
theorem LitSt.drew {w : World} {ns : List Nd} {ps : List Nat} {A : Option Addr} {mb : Nat} (h : LitSt w ns ps A mb) : LitSt w.drew ns ps A mb := ⟨h.rd.drew, h.map⟩
set_option maxRecDepth 100000 in
set_option maxHeartbeats 4000000 in
theorem lit1_any (ns : List Nd) (ps : List Nat) (A : Option Addr) (c mb k : Nat) (w : World) (g : Good ns) (hp : ∀ p ∈ ps, p < ns.length) (hpl : ps.length ≤ 20000) (hk : k < ns.length) (h4 : (nd ns k).k ≠ 4) (ha : (nd ns k).k = 3 → 0 ≤ (nd ns k).a ∧ (nd ns k).a ≤ 4611686018427387904) (h : LitSt w ns ps A mb) :
    Calls Try.prog 54 #[.agg #[.slice A ns.length c, .map (some mb), .int .i64 (ps.length : Int)], .int .i64 (k : Int)] w fun e w' => e = .returned (.int .i64 (lit1 ns ps k)) ∧ Below w.heap.size w w' := by
  have hlk := fun W hm => run_look3 mb (entP ns ps 0) (entP ns ps 0).length (nd ns k) W hm
  rw [entP_look g hk ps hp] at hlk
  obtain ⟨gb, off, rfl, x0, x1, x2, hgb⟩ := h.rd.nd3 k hk rfl
  have hmb := lt_of_blk h.map
  have hml := g.most
  have hbx := (Below.refl w.heap.size w).alloc (Nat.le_refl _) (.cells #[.slice (some ⟨gb, off, none⟩) ns.length c, .map (some mb), .int .i64 (ps.length : Int)] 94)
  have hbx2 := hbx.alloc hbx.size (.cells #[.int .i64 (nd ns k).k, .int .i64 (nd ns k).a, .int .i64 (nd ns k).b] 96)
  have hm2 := (h.below hbx2).map
  have hlk2 := hlk _ hm2
  unfold lit1
  have hkl : (k : Int) < (ns.length : Int) := by omega
  generalize posN ps k = P at *
  generalize nd ns k = X at *
  obtain ⟨xk, xa, xb⟩ := X
  simp only [Nd.val] at x0 x1 x2 h4 ha hlk2 hbx2 ⊢
  have y0 := (World.cell?_alloc_lt w (.cells #[.slice (some ⟨gb, off, none⟩) ns.length c, .map (some mb), .int .i64 (ps.length : Int)] 94) ⟨gb, off + k * 3, none⟩ hgb).trans x0
  have y1 := (World.cell?_alloc_lt w (.cells #[.slice (some ⟨gb, off, none⟩) ns.length c, .map (some mb), .int .i64 (ps.length : Int)] 94) ⟨gb, off + k * 3 + 1, none⟩ hgb).trans x1
  have y2 := (World.cell?_alloc_lt w (.cells #[.slice (some ⟨gb, off, none⟩) ns.length c, .map (some mb), .int .i64 (ps.length : Int)] 94) ⟨gb, off + k * 3 + 2, none⟩ hgb).trans x2
  have HB := Lib.hid hbx2
  clear hlk hm2 hbx hbx2 x0 x1 x2 h
  by_cases h3 : xk = 3
  · subst h3
    obtain ⟨ha1, ha2⟩ := ha rfl
    rw [if_pos rfl]
    clear hlk2 ha h4
    go_enter Try.func54, Try.ntmps54
    go_wp2_with fail
    go_ret
    exact ⟨by first | rfl | go_num, HB.out⟩
  · have h3' : (xk == 3) = false := by simpa using h3
    have h4' : (xk == 4) = false := by simpa using h4
    rw [if_neg h3]
    clear ha h3 h4
    go_enter Try.func54, Try.ntmps54
    go_wp2_with fail
    go_ret
    exact ⟨rfl, HB.out⟩
end Go.Proofs.Ytbcabcdgblmnkaa

namespace Go.Proofs.Ytbcabcdgblmnkaa
open Go.RowKit
set_option linter.unusedVariables false
set_option linter.unusedSimpArgs false

set_option maxRecDepth 100000 in
set_option maxHeartbeats 4000000 in
theorem lit_any (ns : List Nd) (ps : List Nat) (A : Option Addr) (c mb k : Nat) (w : World) (g : Good ns) (hp : ∀ p ∈ ps, p < ns.length) (hpl : ps.length ≤ 20000) (hk : k < ns.length) (ha : ∀ k, k < ns.length → (nd ns k).k = 3 → 0 ≤ (nd ns k).a ∧ (nd ns k).a ≤ 4611686018427387904) (h : LitSt w ns ps A mb) :
    Calls Try.prog 54 #[.agg #[.slice A ns.length c, .map (some mb), .int .i64 (ps.length : Int)], .int .i64 (k : Int)] w fun e w' => e = .returned (.int .i64 (litN ns ps k)) ∧ Below w.heap.size w w' := by
  unfold litN
  by_cases h4 : (nd ns k).k = 4
  · rw [if_pos h4]
    obtain ⟨p1, p2, p3, _, p5⟩ := good_kids g hk (by omega)
    have p6 := (p5 h4).2
    obtain ⟨a, ea⟩ : ∃ a : Nat, (nd ns k).a = a := ⟨(nd ns k).a.toNat, by omega⟩
    have hrec := fun W hW => lit1_any ns ps A c mb (nd ns k).a.toNat W g hp hpl (by omega) p6 (ha _ (by omega)) hW
    have hbd : -9000000000000000000 ≤ lit1 ns ps (nd ns k).a.toNat ∧ lit1 ns ps (nd ns k).a.toNat ≤ 9000000000000000000 := by
      unfold lit1
      by_cases h3 : (nd ns (nd ns k).a.toNat).k = 3
      · rw [if_pos h3]
        have := ha _ (by omega) h3
        omega
      · rw [if_neg h3]
        unfold posN
        cases hf : ps.findIdx? (fun p => p == (nd ns k).a.toNat) with
        | none => simp
        | some q =>
          have := (List.findIdx?_eq_some_iff_getElem.1 hf).1
          simp only
          omega
    generalize lit1 ns ps (nd ns k).a.toNat = L at *
    rw [ea, Int.toNat_natCast] at hrec p3
    obtain ⟨gb, off, rfl, x0, x1, x2, hgb⟩ := h.rd.nd3 k hk rfl
    have hml := g.most
    have hbx := (Below.refl w.heap.size w).alloc (Nat.le_refl _) (.cells #[.slice (some ⟨gb, off, none⟩) ns.length c, .map (some mb), .int .i64 (ps.length : Int)] 94)
    have hbx2 := hbx.alloc hbx.size (.cells #[.int .i64 (nd ns k).k, .int .i64 (nd ns k).a, .int .i64 (nd ns k).b] 96)
    have hcall := hrec _ (h.below hbx2)
    have hkl : (k : Int) < (ns.length : Int) := by omega
    rw [ea] at x1 hbx2 hcall
    rw [h4] at x0 hbx2 hcall
    have y0 := (World.cell?_alloc_lt w (.cells #[.slice (some ⟨gb, off, none⟩) ns.length c, .map (some mb), .int .i64 (ps.length : Int)] 94) ⟨gb, off + k * 3, none⟩ hgb).trans x0
    have y1 := (World.cell?_alloc_lt w (.cells #[.slice (some ⟨gb, off, none⟩) ns.length c, .map (some mb), .int .i64 (ps.length : Int)] 94) ⟨gb, off + k * 3 + 1, none⟩ hgb).trans x1
    have y2 := (World.cell?_alloc_lt w (.cells #[.slice (some ⟨gb, off, none⟩) ns.length c, .map (some mb), .int .i64 (ps.length : Int)] 94) ⟨gb, off + k * 3 + 2, none⟩ hgb).trans x2
    generalize (nd ns k).b = xb at *
    have HB := Lib.hid hbx2
    clear hrec hbx hbx2 x0 x1 x2 h h4 ea p1 p2 p3 p5 p6 ha
    go_enter Try.func54, Try.ntmps54
    go_wp2_with (go_at_call 54; refine hcall.mono ?_; rintro e w3 ⟨rfl, hb3⟩)
    go_ret
    exact ⟨by first | rfl | go_num, HB.out.trans (hb3.mono HB.out.size)⟩
  · rw [if_neg h4]
    exact lit1_any ns ps A c mb k w g hp hpl hk h4 (ha k hk) h

theorem info_rowC : (Try.prog.info? 22).map (fun i => (i.zero, i.size, i.bytes)) = some (some (.slice none 0 0), 1, 24) := by kernel_rfl
theorem RowI.frC {w w' : World} {B : Nat} {v : Value} {xs : List Int} {T : Nat → Prop} (h : RowI w B v xs) (hf : Fr T w w') (hT : ∀ (g : Nat) (cur : Array Value), w.heap[g]? = some (.cells cur 3 (0, 0)) → ¬ T g) : RowI w' B v xs := by
  obtain ⟨A, c, e, h1, h2, h3, h4⟩ := h
  refine ⟨A, c, e, h1, h2, hf.rd h3 (fun b o e' => ?_), fun a ha => ?_⟩
  · obtain ⟨g, cur, e2, hg, hh⟩ := h4 _ e'
    injection e2 with e2
    subst e2
    exact hT _ cur hh
  · obtain ⟨g, cur, e2, hg, hh⟩ := h4 a ha
    exact ⟨g, cur, e2, hg, (hf.block g (Array.getElem?_eq_some_iff.1 hh).1 (hT g cur hh)).trans hh⟩
/-- the clauses so far. -/
structure OutS (B : Nat) (w : World) (ob m : Nat) (v : Value) (vs : List Value) (yss : List (List Int)) : Prop where
  blk : w.heap[ob]? = some (.cells #[.int .i64 (m : Int), v] 60 (0, 0))
  own : w.ownsRow B 22 1 v vs.length vs
  len : vs.length = yss.length
  rows : ∀ (i : Nat) (u : Value) (ys : List Int), vs[i]? = some u → yss[i]? = some ys → RowI w B u ys
theorem OutS.below {B : Nat} {w w' : World} {ob m : Nat} {v : Value} {vs : List Value} {yss : List (List Int)} (h : OutS B w ob m v vs yss) (hb : Below w.heap.size w w') : OutS B w' ob m v vs yss :=
  ⟨(hb.block _ (lt_of_blk h.blk)).trans h.blk, own_below h.own hb, h.len, fun i u ys hu hy => (h.rows i u ys hu hy).below hb⟩
set_option maxRecDepth 100000 in
set_option maxHeartbeats 4000000 in
theorem add_any (B : Nat) (w : World) (ob m : Nat) (v : Value) (vs : List Value) (yss : List (List Int)) (xs : List Int) (A : Option Addr) (n cc : Nat) (hn : xs.length = n) (h : OutS B w ob m v vs yss) (hB : B ≤ w.heap.size) (hlit : ∀ l ∈ xs, IsLit l) (hcl : xs.length ≤ 3) (hcc : n ≤ cc) (hr : Rd w 1 A n (ints xs)) (hvs : vs.length ≤ 100000) :
    Calls Try.prog 53 #[.slice A n cc, .pointer (some ⟨ob, 0, none⟩)] w fun e w' => e = .returned (.tuple #[]) ∧ ∃ v' u, OutS B w' ob m v' (vs ++ [u]) (yss ++ [canonI xs]) ∧ Fr (fun b => b = ob ∨ ownS v b) w w' := by
  obtain ⟨i0, hi, hz0, hz1, hz2⟩ := info_parts info_rowC
  have hcan := canon_good xs A n cc w hn hcc (by omega) hr hlit
  obtain ⟨Av, cv, rfl, hnc, _⟩ := ownsRow_form h.own
  have H := Lib.hid h
  clear h hr
  go_enter Try.func53, Try.ntmps53
  go_upto_region 1 with (go_at_call 21; refine hcan.mono ?_; clear hcan; rintro e w1 ⟨u, rfl, hrow, hb1⟩; have h1 := H.out.below hb1; obtain ⟨Au, cu, rfl, hu1, hu2, hu3⟩ := hrow.rd)
  have hrow1 := hrow.more hB
  have hB1 : B ≤ w1.heap.size := Nat.le_trans hB hb1.size
  have y1 : w1.cell? ⟨ob, 1, none⟩ = some (.slice Av vs.length cv) := (cell_of_blk h1.blk 1).trans rfl
  have H1 := Lib.hid h1
  have HR1 := Lib.hid hrow1
  have HB1 := Lib.hid hb1
  clear hrow hrow1 h1 hu3 hb1
  go_wp2_with (at_builtin; refine app1 B w1 w1 (.slice Au (canonI xs).length cu) 22 rfl _ _ 39 rfl i0 (.slice none 0 0) 24 Try.underlying39 hi hz0 hz1 hz2 rfl (by decide) _ vs.length vs rfl hB1 H1.out.own (Below.refl _ _) rfl rfl (by omega) ?_)
  intro v2 w2 hown2 hb2 hg2
  have hf2 : Fr (ownS (.slice Av vs.length cv)) w1 w2 := Fr.of_grown hg2 (fun k hk => .inl hk)
  have hblk2 := (hf2.block ob (lt_of_blk H1.out.blk) (fun hs => own_type H1.out.own H1.out.blk (by decide) hs)).trans H1.out.blk
  have hset := set_blk hblk2 1 v2
  have hs2 := (Fr.refl (fun b => b = ob) w2).setCell ⟨ob, 1, none⟩ v2 (.inl rfl)
  have hown3 := hs2.own hown2 (fun b hb e => own_type hown2 hblk2 (by decide) (e ▸ hb))
  have hfr : Fr (fun b => b = ob ∨ ownS (.slice Av vs.length cv) b) w (w2.setCell ⟨ob, 1, none⟩ v2) :=
    ((Fr.of_below (S := fun b => b = ob ∨ ownS (.slice Av vs.length cv) b) HB1.out).trans hf2 (fun b hb => .inl (.inr hb))).setCell ⟨ob, 1, none⟩ v2 (.inl (.inl rfl))
  have hT : ∀ (g : Nat) (cur : Array Value), w1.heap[g]? = some (.cells cur 3 (0, 0)) → ¬ ownS (.slice Av vs.length cv) g := fun g cur hh => own_type H1.out.own hh (by decide)
  have hT2 : ∀ (g : Nat) (cur : Array Value), w2.heap[g]? = some (.cells cur 3 (0, 0)) → ¬ g = ob := fun g cur hh e => by
    subst e
    rw [hblk2] at hh
    injection hh with hh
    injection hh with _ hh
    revert hh
    decide
  have hout : OutS B (w2.setCell ⟨ob, 1, none⟩ v2) ob m v2 (vs ++ [.slice Au (canonI xs).length cu]) (yss ++ [canonI xs]) := by
    refine ⟨hset.trans rfl, by rw [List.length_append]; exact hown3, by simp [H1.out.len], fun i a b ha hbb => ?_⟩
    by_cases hi' : i < vs.length
    · rw [List.getElem?_append_left hi'] at ha
      rw [List.getElem?_append_left (by rw [← H1.out.len]; exact hi')] at hbb
      exact ((H1.out.rows i a b ha hbb).frC hf2 hT).frC hs2 hT2
    · have hil := (List.getElem?_eq_some_iff.1 ha).1
      rw [List.length_append] at hil
      simp at hil
      obtain rfl : i = vs.length := by omega
      rw [List.getElem?_append_right (Nat.le_refl _), Nat.sub_self] at ha
      rw [List.getElem?_append_right (by rw [H1.out.len]; exact Nat.le_refl _), H1.out.len, Nat.sub_self] at hbb
      simp only [List.getElem?_cons_zero, Option.some.injEq] at ha hbb
      subst ha hbb
      exact (HR1.out.frC hf2 hT).frC hs2 hT2
  have x1 : w2.cell? ⟨ob, 1, none⟩ = some (.slice Av vs.length cv) := (cell_of_blk hblk2 1).trans rfl
  have p1 := frozen_of_blk hblk2 1
  obtain ⟨A3, c3, rfl, _, _⟩ := ownsRow_form hown2
  have HO := Lib.hid hout
  have HF := Lib.hid hfr
  clear hown2 hb2 hg2 hf2 hblk2 hset hs2 hown3 hfr hT hT2 hout y1
  go_wp2_with fail
  go_end0
  exact ⟨rfl, _, _, HO.out, HF.out⟩
end Go.Proofs.Ytbcabcdgblmnkaa
