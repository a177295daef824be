/- Small lemmas about memory: a slice that reads as a list of cells, whole blocks, owned rows. No program in sight. -/
import Derived.WalkKit
import Derived.WalkLawsBesides
import Derived.WalkSpells
import Derived.Laws.OwnMore
import Derived.Lib.Hide
import Derived.Maps.AppendAt
namespace Go.Proofs.YtlbbbafehhdpnaaDoor
open Go.RowKit

/-- The slice with address A, of n elements of so many cells, reads as these cells. -/
def Rd (w : World) (size : Nat) (A : Option Addr) (n : Nat) (xs : List Value) : Prop :=
  xs.length = n * size ∧ (0 < n → ∃ b off, A = some ⟨b, off, none⟩ ∧ ∀ j u, xs[j]? = some u → w.cell? ⟨b, off + j, none⟩ = some u)

section
variable {w w' : World} {size n : Nat} {A : Option Addr} {xs : List Value}

theorem Rd.none_ : Rd w size A 0 [] := ⟨by simp, fun h => absurd h (by omega)⟩

theorem Rd.at_ {k : Nat} (h : Rd w 1 A n xs) (hk : k < n) : ∃ b off u, A = some ⟨b, off, none⟩ ∧ xs[k]? = some u ∧ w.cell? ⟨b, off + k, none⟩ = some u := by
  obtain ⟨b, off, e, hc⟩ := h.2 (by omega)
  have hl : k < xs.length := by have := h.1; omega
  exact ⟨b, off, xs[k], e, List.getElem?_eq_getElem hl, hc k _ (List.getElem?_eq_getElem hl)⟩

theorem Rd.blk {b off : Nat} (h : Rd w size A n xs) (hn : 0 < n) (hs : 0 < size) (e : A = some ⟨b, off, none⟩) : b < w.heap.size := by
  obtain ⟨b', off', e', hc⟩ := h.2 hn
  rw [e] at e'
  injection e' with e'
  injection e' with e1 e2
  subst e1; subst e2
  have hl : 0 < xs.length := by rw [h.1]; exact Nat.mul_pos hn hs
  exact World.block_lt_of_cell? w _ (hc 0 xs[0] (List.getElem?_eq_getElem hl))

theorem Rd.keep (h : Rd w size A n xs) (hk : ∀ p : Addr, p.block < w.heap.size → w'.cell? p = w.cell? p) : Rd w' size A n xs :=
  ⟨h.1, fun hn => by
    obtain ⟨b, off, e, hc⟩ := h.2 hn
    exact ⟨b, off, e, fun j u hu => (hk _ (World.block_lt_of_cell? w _ (hc j u hu))).trans (hc j u hu)⟩⟩

theorem Rd.below (h : Rd w size A n xs) (hb : Below w.heap.size w w') : Rd w' size A n xs := h.keep fun _ hp => hb.cell hp
theorem Rd.drew (h : Rd w size A n xs) : Rd w.drew size A n xs := h
theorem Rd.alloc (h : Rd w size A n xs) (o : Obj) : Rd (w.alloc o) size A n xs := h.keep fun p hp => World.cell?_alloc_lt w o p hp

/-- A cut 's[lo:]' keeps the model's own 'if'. -/
theorem Rd.cut {k cap : Nat} (h : Rd w 1 A n xs) (hk : k ≤ n) (hc : n ≤ cap) :
    Rd w 1 (if cap = k then A else A.map (·.add k)) (n - k) (xs.drop k) := by
  refine ⟨by rw [List.length_drop, h.1]; omega, fun hn => ?_⟩
  obtain ⟨b, off, rfl, hcell⟩ := h.2 (by omega)
  rw [if_neg (by omega)]
  refine ⟨b, off + k, by simp [Addr.add], fun j u hu => ?_⟩
  have := hcell (k + j) u (by rw [← hu, List.getElem?_drop])
  rw [Nat.add_assoc]
  exact this

theorem Rd.take {k : Nat} (h : Rd w 1 A n xs) (hk : k ≤ n) : Rd w 1 A k (xs.take k) := by
  refine ⟨by rw [List.length_take, h.1]; omega, fun hn => ?_⟩
  obtain ⟨b, off, rfl, hcell⟩ := h.2 (by omega)
  refine ⟨b, off, rfl, fun j u hu => hcell j u ?_⟩
  rw [List.getElem?_take] at hu
  split at hu
  · exact hu
  · cases hu

theorem ownsRow_form {base : Nat} {e : TypeId} {v : Value} (h : w.ownsRow base e size v n xs) : ∃ A c, v = .slice A n c ∧ n ≤ c ∧ Rd w size A n xs := by
  rcases h.2 with ⟨rfl, rfl⟩ | ⟨g, cap, cur, rfl, _, hh, hnc, _⟩
  · exact ⟨none, 0, rfl, Nat.le_refl _, by have := h.1; simp at this; subst this; exact Rd.none_⟩
  · refine ⟨_, cap, rfl, hnc, h.1, fun _ => ⟨g, 0, rfl, fun j u hu => ?_⟩⟩
    have := h.cells (g := g) rfl j u hu
    have hadd : (⟨g, 0, none⟩ : Addr).add j = ⟨g, j, none⟩ := by unfold Addr.add; split <;> simp_all
    rw [hadd] at this
    simpa using this
end

theorem owned_form {w : World} {base : Nat} {e : TypeId} {v : Value} {size n : Nat} {xs : List Value} (h : w.ownsRow base e size v n xs) (hn : 0 < n) :
    ∃ g c, v = .slice (some ⟨g, 0, none⟩) n c ∧ base ≤ g ∧ g < w.heap.size ∧ n ≤ c := by
  rcases h.2 with ⟨_, rfl⟩ | ⟨g, cap, cur, rfl, hg, hh, hnc, _⟩
  · omega
  · exact ⟨g, cap, rfl, hg, (Array.getElem?_eq_some_iff.1 hh).1, hnc⟩

theorem ret_int {k : IntKind} {a b : Int} (h : a = b) : Ending.returned (.int k a) = .returned (.int k b) := by rw [h]
theorem ret_bool {a b : Bool} (h : a = b) : Ending.returned (.bool a) = .returned (.bool b) := by rw [h]
theorem ret_int_bool {k : IntKind} {a b : Int} {c d : Bool} (h : a = b) (h' : c = d) : Ending.returned (.tuple #[.int k a, .bool c]) = .returned (.tuple #[.int k b, .bool d]) := by rw [h, h']

theorem bcell {W w1 : World} (hb : Below W.heap.size W w1) : (∀ b o, b < W.heap.size → w1.cell? ⟨b, o, none⟩ = W.cell? ⟨b, o, none⟩) ∧ (∀ b o, b < W.heap.size → w1.frozen? ⟨b, o, none⟩ = W.frozen? ⟨b, o, none⟩) :=
  ⟨fun b o h => hb.cell (p := ⟨b, o, none⟩) h, fun b o h => hb.frozen (p := ⟨b, o, none⟩) h⟩

theorem one_cell (w : World) (v : Value) (E : TypeId) (j : Nat) (u : Value) (h : [v][j]? = some u) : (w.alloc (.cells #[v] E)).cell? ((⟨w.heap.size, 0, none⟩ : Addr).add j) = some u := by
  match j, h with
  | 0, h =>
    simp at h
    subst h
    simp [Addr.add]

/-- The loop's limb behind an append of the call's own. -/
theorem below_append {B : Nat} {a w w' : World} {o : Obj} {e : TypeId} {size n : Nat} {v : Value} {xs : List Value} (h : Below B a w) (hB : B ≤ w.heap.size) (hown : w.ownsRow B e size v n xs) (hg : (w.alloc o).grownBy w' v.ownBlock) : Below B a w' :=
  (h.alloc hB o).grown hg (by simp; omega) (fun k hk => (hown.lt k hk).1)

/-- 'out = append(out, x)' of one element of one cell, 'out' of the call's own from block B on: W0 is the world in which the call began. -/
theorem app1 {P : Program} (B : Nat) (W0 w : World) (X : Value) (E : TypeId) {ops : Array Oper} {rest : List Oper} {o : Oper} {a : Act} {Q : Exit → Act → World → Prop} (hgd : o.guard = none) (s x : Operand) (t : TypeId)
    (ho : o.op = .call { callee := .builtin .append, args := #[s, x], argTypes := #[t, t] })
    (i : TypeInfo) (z : Value) (bytes : Nat) (ht : P.underlying t = some (.slice E)) (hi : P.info? E = some i) (hz : i.zero = some z)
    (hsize : i.size = 1) (hby : i.bytes = bytes) (hzs : z.cells.size = 1) (hb1 : 0 < bytes)
    (v : Value) (n : Nat) (xs : List Value) (hs : a.eval s = v) (hB : B ≤ W0.heap.size) (hown : w.ownsRow B E 1 v n xs) (hbel : Below B W0 w)
    (hx : a.eval x = .slice (some ⟨w.heap.size, 0, none⟩) 1 1) (h1 : X.oneCell' = true) (hbytes : (n + 1) * bytes ≤ 140737488355328)
    (h : ∀ v' w', w'.ownsRow B E 1 v' (n + 1) (xs ++ [X]) → Below B W0 w' → w.grownBy w' v.ownBlock → wpList P ops Q rest (a.put o.dst v') w') :
    wpList P ops Q (o :: rest) a (w.alloc (.cells #[X] E)) := by
  have hm : n + 1 ≤ (n + 1) * bytes := Nat.le_mul_of_pos_right _ hb1
  have hBw : B ≤ w.heap.size := Nat.le_trans hB hbel.size
  refine wpList_append_own _ hgd s x t ho B E i z 1 bytes ht hi hz hsize hby hzs (by decide) v n xs hs (hown.alloc _) ⟨w.heap.size, 0, none⟩ 1 1 [X] hx rfl (one_cell _ _ _) ?_ (by unfold maxLen; omega) hbytes (by simp; omega) ?_
  · intro u hu
    simp at hu
    subst hu
    exact h1
  · intro v' w' hown' hg _
    refine h v' w' hown' (below_append hbel hBw hown hg) ?_
    have ha := World.grownBy_alloc w (.cells #[X] E) v.ownBlock
    exact ⟨hg.os.trans ha.os, hg.tape.trans ha.tape, hg.output.trans ha.output, Nat.le_trans ha.size hg.size, fun k hk hne => (hg.block k (Nat.lt_of_lt_of_le hk ha.size) hne).trans (ha.block k hk hne)⟩

/-- 'make([]T, n)', elements of one cell. -/
theorem make1 {P : Program} (B : Nat) (W0 w : World) {ops : Array Oper} {rest : List Oper} {o : Oper} {a : Act} {Q : Exit → Act → World → Prop}
    (hg : o.guard = none) (l c : Operand) (t : TypeId) (hop : o.op = Op.makeSlice t l c)
    (e : TypeId) (i : TypeInfo) (z : Value) (bytes : Nat) (h1 : P.underlying t = some (.slice e)) (h2 : P.info? e = some i) (h3 : i.zero = some z) (h4 : i.size = 1) (h5 : i.bytes = bytes) (hzs : z.cells = #[z]) (hb1 : 0 < bytes)
    (kl kc : IntKind) (L C : Int) (n : Nat) (hl : a.eval l = .int kl L) (hc : a.eval c = .int kc C) (hL : L = (n : Int)) (hC : C = (n : Int)) (b2 : n * bytes ≤ 281474976710656)
    (ys : List Value) (hys : List.replicate n z = ys) (hB : B ≤ W0.heap.size) (hbel : Below B W0 w)
    (hK : ∀ w', w'.ownsRow w.heap.size e 1 (.slice (some ⟨w.heap.size, 0, none⟩) n n) n ys → Below B W0 w' → w.grownBy w' none → wpList P ops Q rest (a.put o.dst (.slice (some ⟨w.heap.size, 0, none⟩) n n)) w') :
    wpList P ops Q (o :: rest) a w := by
  have hm : n ≤ n * bytes := Nat.le_mul_of_pos_right _ hb1
  subst h5
  refine wpList_make_full w hg l c t hop w.heap.size e i z 1 h1 h2 h3 h4 kl kc L C n hl hc hL hC (by rw [Nat.mul_comm]; exact b2) (by unfold maxLen; omega) (Nat.le_refl _) ?_
  intro w' hown hgr
  rw [hzs, Nat.mul_one, toList_madeCells_one, hys] at hown
  exact hK w' hown (hbel.grown hgr (Nat.le_trans hB hbel.size) (fun k hk => by cases hk)) hgr

theorem addr_add_none (b o j : Nat) : (⟨b, o, none⟩ : Addr).add j = ⟨b, o + j, none⟩ := by
  unfold Addr.add
  split
  · subst_vars; rfl
  · rfl

theorem appNone {P : Program} {w : World} {ops : Array Oper} {rest : List Oper} {o : Oper} {a : Act} {Q : Exit → Act → World → Prop} (hgd : o.guard = none) (s x : Operand) (t : TypeId)
    (ho : o.op = .call { callee := .builtin .append, args := #[s, x], argTypes := #[t, t] })
    (base : Nat) (e : TypeId) (i : TypeInfo) (size : Nat) (ht : P.underlying t = some (.slice e)) (hi : P.info? e = some i)
    (v : Value) (n c : Nat) (xs : List Value) (hs : a.eval s = v) (hown : w.ownsRow base e size v n xs) (hx : a.eval x = .slice none 0 c)
    (h : wpList P ops Q rest (a.put o.dst v) w) : wpList P ops Q (o :: rest) a w := by
  refine wpList_plain hgd fun K hK => ?_
  have hrun : (Builtin.append_ #[t, t] o.type #[v, .slice none 0 c]).run P w = .ok v w := by
    rcases hown.2 with ⟨rfl, rfl⟩ | ⟨g, cap, cur, rfl, _, _, hnc, _⟩
    · simp [Builtin.append_, run_underlying ht, sizeOf, typeInfo, hi, Builtin.lenOf, Builtin.firstCells]
    · simp [Builtin.append_, run_underlying ht, sizeOf, typeInfo, hi, Builtin.lenOf, Builtin.firstCells, hnc, storeCells]
  unfold Oper.wp
  simp [execOp, ho, resolve, invoke, builtin, hs, hx, hrun, Result.andThen]
  exact hK _ _ h

/-- 'out = append(out, xs...)', elements of one cell; 'out' of the call's own, xs whatever slice that reads. -/
theorem appR {P : Program} (B : Nat) (W0 w : World) (E : TypeId) {ops : Array Oper} {rest : List Oper} {o : Oper} {a : Act} {Q : Exit → Act → World → Prop} (hgd : o.guard = none) (s x : Operand) (t : TypeId)
    (ho : o.op = .call { callee := .builtin .append, args := #[s, x], argTypes := #[t, t] })
    (i : TypeInfo) (z : Value) (bytes : Nat) (ht : P.underlying t = some (.slice E)) (hi : P.info? E = some i) (hz : i.zero = some z)
    (hsize : i.size = 1) (hby : i.bytes = bytes) (hzs : z.cells.size = 1) (hb1 : 0 < bytes)
    (v : Value) (n : Nat) (xs : List Value) (hs : a.eval s = v) (hB : B ≤ W0.heap.size) (hown : w.ownsRow B E 1 v n xs) (hbel : Below B W0 w)
    (A : Option Addr) (m c : Nat) (news : List Value) (hx : a.eval x = .slice A m c) (hrd : Rd w 1 A m news) (h1 : ∀ u ∈ news, u.oneCell' = true) (hbytes : (n + m) * bytes ≤ 140737488355328)
    (h : ∀ v' w', w'.ownsRow B E 1 v' (n + m) (xs ++ news) → Below B W0 w' → w.grownBy w' v.ownBlock → wpList P ops Q rest (a.put o.dst v') w') :
    wpList P ops Q (o :: rest) a w := by
  have hm : n + m ≤ (n + m) * bytes := Nat.le_mul_of_pos_right _ hb1
  have hBw : B ≤ w.heap.size := Nat.le_trans hB hbel.size
  rcases A with _ | ad
  · have hm0 : m = 0 := by
      rcases Nat.eq_zero_or_pos m with h0 | h0
      · exact h0
      · obtain ⟨_, _, h', _⟩ := hrd.2 h0
        cases h'
    subst hm0
    have hn : news = [] := List.eq_nil_of_length_eq_zero (by simpa using hrd.1)
    subst hn
    have hh := h v w (by simpa using hown) hbel (World.grownBy.refl w _)
    exact appNone hgd s x t ho B E i 1 ht hi v n c xs hs hown hx hh
  · refine wpList_append_own w hgd s x t ho B E i z 1 bytes ht hi hz hsize hby hzs (by decide) v n xs hs hown ad m c news hx hrd.1 ?_ h1 (by unfold maxLen; omega) hbytes hBw ?_
    · intro j u hu
      have hj : 0 < m := by
        have := (List.getElem?_eq_some_iff.1 hu).1
        have := hrd.1
        omega
      obtain ⟨b, off, e, hc⟩ := hrd.2 hj
      injection e with e
      subst e
      rw [addr_add_none]
      exact hc j u hu
    · intro v' w' hown' hg _
      exact h v' w' hown' (hbel.grown hg hBw (fun k hk => (hown.lt k hk).1)) hg

/-- 'append([]T{}, ..)', 'append([]T(nil), ..)': what a new empty slice owns. -/
theorem own_empty (w : World) (E : TypeId) (B : Nat) (hB : B ≤ w.heap.size) : (w.alloc (.cells #[] E)).ownsRow B E 1 (.slice (some ⟨w.heap.size, 0, none⟩) 0 0) 0 [] := by
  have := World.ownsRow_lit (base := B) (e := E) (size := 1) w #[] 0 hB (by unfold maxLen; omega) rfl
  simpa using this

/-- A new block of literal elements reads as them. -/
theorem rd_lit (w : World) (cs : Array Value) (E : TypeId) : Rd (w.alloc (.cells cs E)) 1 (some ⟨w.heap.size, 0, none⟩) cs.size cs.toList := by
  refine ⟨by simp, fun _ => ⟨w.heap.size, 0, rfl, fun j u hu => ?_⟩⟩
  rw [Nat.zero_add]
  simp at hu
  simp [hu]

end Go.Proofs.YtlbbbafehhdpnaaDoor

namespace Go.Proofs.YtlbbbafehhdpnaaDoor
open Go.RowKit

theorem own_below {w w' : World} {B : Nat} {e : TypeId} {size n : Nat} {v : Value} {xs : List Value} (h : w.ownsRow B e size v n xs) (hb : Below w.heap.size w w') : w'.ownsRow B e size v n xs :=
  h.kept (row := none) ⟨hb.os, hb.tape, hb.output, hb.size, fun k hk _ => hb.block k hk⟩ (by cases v.ownBlock <;> simp)
theorem below_drewN {B : Nat} {a w : World} (h : Below B a w) (q : Nat) : Below B a (w.drewN q) := ⟨h.os, h.tape, h.output, h.size, h.block⟩
theorem below_drewN' {B : Nat} {a w : World} (q : Nat) (h : Below B (a.drewN q) w) : Below B a w := ⟨h.os, h.tape, h.output, h.size, h.block⟩
theorem below_drew' {B : Nat} {a w : World} (h : Below B a.drew w) : Below B a w := ⟨h.os, h.tape, h.output, h.size, h.block⟩
/-- A slice of a value that was nil or is fresh: what is owned from nowhere. -/
theorem own_more {w : World} {B B' : Nat} {e : TypeId} {size n : Nat} {v : Value} {xs : List Value} (h : w.ownsRow B e size v n xs) (hB : B' ≤ B) : w.ownsRow B' e size v n xs := by
  refine ⟨h.1, ?_⟩
  rcases h.2 with h' | ⟨g, cap, cur, hv, hg, r⟩
  · exact .inl h'
  · exact .inr ⟨g, cap, cur, hv, by omega, r⟩

theorem own_new (w : World) (cur : Array Value) (E : TypeId) (n c : Nat) (ys : List Value) (hnc : n ≤ c) (hcm : c ≤ maxLen) (hs : cur.size = c) (hy : cur.toList.take n = ys) :
    (w.alloc (.cells cur E)).ownsRow w.heap.size E 1 (.slice (some ⟨w.heap.size, 0, none⟩) n c) n ys := by
  refine ⟨?_, .inr ⟨w.heap.size, c, cur, rfl, Nat.le_refl _, heap_alloc_new w _, hnc, hcm, by omega, by rw [Nat.mul_one]; exact hy⟩⟩
  rw [← hy, List.length_take]
  simp only [Array.length_toList]
  omega

/-- 'make([]T, n, c)', elements of one cell. -/
theorem make2 {P : Program} (B : Nat) (W0 w : World) {ops : Array Oper} {rest : List Oper} {o : Oper} {a : Act} {Q : Exit → Act → World → Prop}
    (hg : o.guard = none) (l c : Operand) (t : TypeId) (hop : o.op = Op.makeSlice t l c)
    (e : TypeId) (i : TypeInfo) (z : Value) (bytes : Nat) (h1 : P.underlying t = some (.slice e)) (h2 : P.info? e = some i) (h3 : i.zero = some z) (h4 : i.size = 1) (h5 : i.bytes = bytes) (hzs : z.cells = #[z]) (hb1 : 0 < bytes)
    (kl kc : IntKind) (L C : Int) (n cc : Nat) (hl : a.eval l = .int kl L) (hc : a.eval c = .int kc C) (hL : L = (n : Int)) (hC : C = (cc : Int)) (hncc : n ≤ cc) (b2 : cc * bytes ≤ 281474976710656)
    (ys : List Value) (hys : List.replicate n z = ys) (hB : B ≤ W0.heap.size) (hbel : Below B W0 w)
    (hK : ∀ w', w'.ownsRow w.heap.size e 1 (.slice (some ⟨w.heap.size, 0, none⟩) n cc) n ys → Below B W0 w' → w.grownBy w' none → wpList P ops Q rest (a.put o.dst (.slice (some ⟨w.heap.size, 0, none⟩) n cc)) w') :
    wpList P ops Q (o :: rest) a w := by
  have hm : cc ≤ cc * bytes := Nat.le_mul_of_pos_right _ hb1
  subst h5
  refine wpList_plain hg fun K hK' => ?_
  subst hL; subst hC
  have hrun := run_make (P := P) (w := w) t e i z h1 h2 h3 kl kc n cc (by omega) (by omega) (by
    have h : ((i.bytes * cc : Nat) : Int) ≤ 281474976710656 := by rw [Nat.mul_comm]; omega
    rwa [Int.natCast_mul] at h) (by omega)
  simp only [Int.toNat_natCast, h4, Nat.mul_one, hzs] at hrun
  unfold Oper.wp
  simp [execOp, hop, hl, hc, hrun, Result.andThen]
  have hgr : w.grownBy (w.alloc (.cells (madeCells #[z] cc) e)) none := World.grownBy_alloc w _ none
  refine hK' _ _ (hK _ ?_ (hbel.alloc (Nat.le_trans hB hbel.size) _) hgr)
  refine own_new w _ e n cc ys hncc (by unfold maxLen; omega) (by simp [madeCells]) ?_
  rw [toList_madeCells_one, List.take_replicate, Nat.min_eq_left hncc, hys]

end Go.Proofs.YtlbbbafehhdpnaaDoor

namespace Go.Proofs.YtlbbbafehhdpnaaDoor
open Go.RowKit
set_option linter.unusedVariables false
set_option linter.unusedSimpArgs false

/-- Only the blocks of S, and new ones, have turned. -/
structure Fr (S : Nat → Prop) (w w' : World) : Prop where
  os : w'.os = w.os
  tape : w'.tape = w.tape
  output : w'.output = w.output
  size : w.heap.size ≤ w'.heap.size
  block : ∀ k, k < w.heap.size → ¬ S k → w'.heap[k]? = w.heap[k]?

section
variable {S S' : Nat → Prop} {w w1 w2 : World}
theorem Fr.refl (S : Nat → Prop) (w : World) : Fr S w w := ⟨rfl, rfl, rfl, Nat.le_refl _, fun _ _ _ => rfl⟩
theorem Fr.trans (h : Fr S w w1) (k : Fr S' w1 w2) (hs : ∀ b, S' b → S b ∨ w.heap.size ≤ b) : Fr S w w2 :=
  ⟨k.os.trans h.os, k.tape.trans h.tape, k.output.trans h.output, Nat.le_trans h.size k.size, fun b hb hn =>
    (k.block b (Nat.lt_of_lt_of_le hb h.size) (fun hs' => by rcases hs b hs' with h' | h'; exact hn h'; omega)).trans (h.block b hb hn)⟩
theorem Fr.mono (h : Fr S w w1) (hs : ∀ b, b < w.heap.size → S b → S' b) : Fr S' w w1 := ⟨h.os, h.tape, h.output, h.size, fun b hb hn => h.block b hb (fun h' => hn (hs b hb h'))⟩
theorem Fr.drew (h : Fr S w w1) : Fr S w w1.drew := ⟨h.os, h.tape, h.output, h.size, h.block⟩
theorem Fr.drewN (h : Fr S w w1) (q : Nat) : Fr S w (w1.drewN q) := ⟨h.os, h.tape, h.output, h.size, h.block⟩
theorem Fr.alloc (h : Fr S w w1) (o : Obj) : Fr S w (w1.alloc o) :=
  ⟨h.os, h.tape, h.output, Nat.le_trans h.size (by simp), fun b hb hn => (Below.heap_alloc w1 o b (Nat.lt_of_lt_of_le hb h.size)).trans (h.block b hb hn)⟩
theorem Fr.setCell (h : Fr S w w1) (p : Addr) (u : Value) (hp : S p.block ∨ w.heap.size ≤ p.block) : Fr S w (w1.setCell p u) :=
  ⟨h.os, h.tape, h.output, by simpa [World.setCell] using h.size, fun b hb hn => (Below.heap_setCell w1 p u b (by rintro rfl; rcases hp with hp | hp; exact hn hp; omega)).trans (h.block b hb hn)⟩
theorem Fr.of_below (h : Below w.heap.size w w1) : Fr S w w1 := ⟨h.os, h.tape, h.output, h.size, fun b hb _ => h.block b hb⟩
theorem Fr.of_grown {row : Option Nat} (h : w.grownBy w1 row) (hr : ∀ k, row = some k → S k ∨ w.heap.size ≤ k) : Fr S w w1 :=
  ⟨h.os, h.tape, h.output, h.size, fun b hb hn => h.block b hb (fun e => by rcases hr b e.symm with h' | h'; exact hn h'; omega)⟩
theorem Fr.below {B : Nat} (h : Fr S w w1) (hB : B ≤ w.heap.size) (hs : ∀ b, S b → B ≤ b) : Below B w w1 :=
  ⟨h.os, h.tape, h.output, h.size, fun b hb => h.block b (by omega) (fun h' => by have := hs b h'; omega)⟩
theorem Fr.cell (h : Fr S w w1) {p : Addr} (hp : p.block < w.heap.size) (hn : ¬ S p.block) : w1.cell? p = w.cell? p := World.cell?_of_block (h.block p.block hp hn)
theorem Fr.own {B : Nat} {e : TypeId} {size n : Nat} {v : Value} {xs : List Value} (h : Fr S w w1) (ho : w.ownsRow B e size v n xs) (hn : ∀ b, v.ownBlock = some b → ¬ S b) : w1.ownsRow B e size v n xs := by
  refine ⟨ho.1, ?_⟩
  rcases ho.2 with h' | ⟨g, cap, cur, hv, hg, hh, r⟩
  · exact .inl h'
  · refine .inr ⟨g, cap, cur, hv, hg, ?_, r⟩
    rw [h.block g (Array.getElem?_eq_some_iff.1 hh).1 (hn g (by rw [hv]; rfl))]
    exact hh
theorem Fr.rd {size n : Nat} {A : Option Addr} {xs : List Value} (h : Fr S w w1) (hr : Rd w size A n xs) (hn : ∀ b o, A = some ⟨b, o, none⟩ → ¬ S b) : Rd w1 size A n xs :=
  ⟨hr.1, fun h0 => by
    obtain ⟨b, o, e, hc⟩ := hr.2 h0
    exact ⟨b, o, e, fun j u hu => (h.cell (World.block_lt_of_cell? w _ (hc j u hu)) (hn b o e)).trans (hc j u hu)⟩⟩
end

/-- the slice's own block, if any, as a set -/
def ownS (v : Value) : Nat → Prop := fun b => v.ownBlock = some b

/-- A row of elements of one type shares no block with a row, or a block, of another. -/
theorem own_type {w : World} {B : Nat} {e : TypeId} {size n : Nat} {v : Value} {xs : List Value} (h : w.ownsRow B e size v n xs) {g : Nat} {cs : Array Value} {t : TypeId} {m : Nat × Nat} (hg : w.heap[g]? = some (.cells cs t m)) (hne : e ≠ t) : v.ownBlock ≠ some g := by
  rcases h.2 with ⟨rfl, _⟩ | ⟨g', cap, cur, rfl, _, hh, _⟩
  · simp [Value.ownBlock]
  · intro he
    have : g' = g := by simpa [Value.ownBlock] using he
    subst this
    rw [hh] at hg
    injection hg with hg
    injection hg with _ ht
    exact hne ht
theorem own_map {w : World} {B : Nat} {e : TypeId} {size n : Nat} {v : Value} {xs : List Value} (h : w.ownsRow B e size v n xs) {g : Nat} {es : Array MapEntry} {c : Nat} (hg : w.heap[g]? = some (.map es c)) : v.ownBlock ≠ some g := by
  rcases h.2 with ⟨rfl, _⟩ | ⟨g', cap, cur, rfl, _, hh, _⟩
  · simp [Value.ownBlock]
  · intro he
    have : g' = g := by simpa [Value.ownBlock] using he
    subst this
    rw [hh] at hg
    cases hg
theorem own_own {w : World} {B B' : Nat} {e e' : TypeId} {size n size' n' : Nat} {v v' : Value} {xs xs' : List Value} (h : w.ownsRow B e size v n xs) (h' : w.ownsRow B' e' size' v' n' xs') (hne : e ≠ e') {b : Nat} (hb : v.ownBlock = some b) : v'.ownBlock ≠ some b := by
  rcases h'.2 with ⟨rfl, _⟩ | ⟨g', cap, cur, rfl, _, hh, _⟩
  · simp [Value.ownBlock]
  · intro he
    have : g' = b := by simpa [Value.ownBlock] using he
    subst this
    exact own_type h hh hne hb
theorem own_lt {w : World} {B : Nat} {e : TypeId} {size n : Nat} {v : Value} {xs : List Value} (h : w.ownsRow B e size v n xs) {b : Nat} (hb : v.ownBlock = some b) : B ≤ b ∧ b < w.heap.size := h.lt b hb

theorem cell_of_blk {w : World} {g : Nat} {cs : Array Value} {t : TypeId} (h : w.heap[g]? = some (.cells cs t (0, 0))) (i : Nat) : w.cell? ⟨g, i, none⟩ = cs[i]? := cell_of_row w g i cs t (0, 0) h
theorem frozen_of_blk {w : World} {g : Nat} {cs : Array Value} {t : TypeId} (h : w.heap[g]? = some (.cells cs t (0, 0))) (i : Nat) : w.frozen? ⟨g, i, none⟩ = false := frozen_of_row w g i cs t h
theorem lt_of_blk {w : World} {g : Nat} {o : Obj} (h : w.heap[g]? = some o) : g < w.heap.size := (Array.getElem?_eq_some_iff.1 h).1
theorem set_blk {w : World} {g : Nat} {cs : Array Value} {t : TypeId} (h : w.heap[g]? = some (.cells cs t (0, 0))) (i : Nat) (u : Value) : (w.setCell ⟨g, i, none⟩ u).heap[g]? = some (.cells (cs.setIfInBounds i u) t (0, 0)) := by
  simp [World.setCell, Array.getElem?_modify, h]
theorem set_far {w : World} {g : Nat} {p : Addr} (hp : g ≠ p.block) (u : Value) : (w.setCell p u).heap[g]? = w.heap[g]? := Below.heap_setCell w p u g hp
theorem alloc_old {w : World} {g : Nat} (o : Obj) (h : g < w.heap.size) : (w.alloc o).heap[g]? = w.heap[g]? := Below.heap_alloc w o g h

/-- append of one element of several cells that lies in a new block of its own: the run. -/
theorem run_appS {P : Program} (w : World) (size : Nat) (Xs : Array Value) (E t ty : TypeId) (i : TypeInfo) (z : Value) (bytes : Nat) (ht : P.underlying t = some (.slice E)) (hi : P.info? E = some i) (hz : i.zero = some z)
    (hsize : i.size = size) (hby : i.bytes = bytes) (hzs : z.cells.size = size) (hsz : 0 < size) (hb1 : 0 < bytes) (hX : Xs.size = size)
    (v : Value) (n : Nat) (xs : List Value) (hown : w.ownsRow 0 E size v n xs) (h1 : ∀ u ∈ Xs.toList, u.oneCell' = true) (hbytes : (n + 1) * bytes ≤ 140737488355328) :
    ∃ v' w', (Builtin.append_ #[t, t] ty #[v, .slice (some ⟨w.heap.size, 0, none⟩) 1 1]).run P (w.alloc (.cells Xs E)) = .ok v' w' ∧
      w'.ownsRow 0 E size v' (n + 1) (xs ++ Xs.toList) ∧ Fr (ownS v) w w' ∧ (v'.ownBlock = v.ownBlock ∨ v'.ownBlock = some (w.heap.size + 1)) := by
  have hm : n + 1 ≤ (n + 1) * bytes := Nat.le_mul_of_pos_right _ hb1
  obtain ⟨v', w', hr, h2, h3, _, h4⟩ := run_append_own_at (P := P) (w := w.alloc (.cells Xs E)) 0 t ty E i z size bytes ht hi hz hsize hby hzs hsz v n xs (hown.alloc _) ⟨w.heap.size, 0, none⟩ 1 1 Xs.toList (by simp [hX]) (by
    intro j u hu
    rw [addr_add_none, Nat.zero_add]
    simp at hu
    simp [hu]) h1 (by unfold maxLen; omega) hbytes (by simp)
  refine ⟨v', w', hr, h2, ?_, by simpa using h4⟩
  have ha : Fr (ownS v) w (w.alloc (.cells Xs E)) := (Fr.refl _ _).alloc _
  exact ha.trans (Fr.of_grown (S := ownS v) h3 (fun k hk => .inl hk)) (fun b hb => .inl hb)

theorem appS {P : Program} (w : World) (size : Nat) (Xs : Array Value) (E : TypeId) {ops : Array Oper} {rest : List Oper} {o : Oper} {a : Act} {Q : Exit → Act → World → Prop} (hgd : o.guard = none) (s x : Operand) (t : TypeId)
    (ho : o.op = .call { callee := .builtin .append, args := #[s, x], argTypes := #[t, t] })
    (i : TypeInfo) (z : Value) (bytes : Nat) (ht : P.underlying t = some (.slice E)) (hi : P.info? E = some i) (hz : i.zero = some z)
    (hsize : i.size = size) (hby : i.bytes = bytes) (hzs : z.cells.size = size) (hsz : 0 < size) (hb1 : 0 < bytes) (hX : Xs.size = size)
    (v : Value) (n : Nat) (xs : List Value) (hs : a.eval s = v) (hown : w.ownsRow 0 E size v n xs)
    (hx : a.eval x = .slice (some ⟨w.heap.size, 0, none⟩) 1 1) (h1 : ∀ u ∈ Xs.toList, u.oneCell' = true) (hbytes : (n + 1) * bytes ≤ 140737488355328)
    (h : ∀ v' w', w'.ownsRow 0 E size v' (n + 1) (xs ++ Xs.toList) → Fr (ownS v) w w' → (v'.ownBlock = v.ownBlock ∨ v'.ownBlock = some (w.heap.size + 1)) → wpList P ops Q rest (a.put o.dst v') w') :
    wpList P ops Q (o :: rest) a (w.alloc (.cells Xs E)) := by
  refine wpList_plain hgd fun K hK => ?_
  obtain ⟨v', w', hr, h2, h3, h4⟩ := run_appS (P := P) w size Xs E t o.type i z bytes ht hi hz hsize hby hzs hsz hb1 hX v n xs hown h1 hbytes
  unfold Oper.wp execOp
  simp only [ho, resolve, invoke, builtin, Sem.run_bind, Sem.run_pure, Result.andThen_ok, List.map_toArray, List.map_cons, List.map_nil, hs, hx, hr]
  exact hK _ _ (h v' w' h2 h3 h4)

/-- .. as one step of a region that draws its order. -/
theorem stepS {P : Program} (w : World) (size : Nat) (Xs : Array Value) (E : TypeId) {ops : Array Oper} {o : Oper} {a : Act} {K : Act → World → Prop} {Q : Exit → Act → World → Prop} {E' : Prop} (hgd : o.guard = none) (s x : Operand) (t : TypeId)
    (ho : o.op = .call { callee := .builtin .append, args := #[s, x], argTypes := #[t, t] })
    (i : TypeInfo) (z : Value) (bytes : Nat) (ht : P.underlying t = some (.slice E)) (hi : P.info? E = some i) (hz : i.zero = some z)
    (hsize : i.size = size) (hby : i.bytes = bytes) (hzs : z.cells.size = size) (hsz : 0 < size) (hb1 : 0 < bytes) (hX : Xs.size = size)
    (v : Value) (n : Nat) (xs : List Value) (hs : a.eval s = v) (hown : w.ownsRow 0 E size v n xs)
    (hx : a.eval x = .slice (some ⟨w.heap.size, 0, none⟩) 1 1) (h1 : ∀ u ∈ Xs.toList, u.oneCell' = true) (hbytes : (n + 1) * bytes ≤ 140737488355328)
    (h : ∀ v' w', w'.ownsRow 0 E size v' (n + 1) (xs ++ Xs.toList) → Fr (ownS v) w w' → (v'.ownBlock = v.ownBlock ∨ v'.ownBlock = some (w.heap.size + 1)) → K (a.put o.dst v') w') :
    if Region.wanted o (yielded ops a.tmps) = true then Oper.wp P o a (w.alloc (.cells Xs E)) K Q else E' := by
  have hw : Region.wanted o (yielded ops a.tmps) = true := by simp [Region.wanted, hgd]
  rw [if_pos hw]
  obtain ⟨v', w', hr, h2, h3, h4⟩ := run_appS (P := P) w size Xs E t o.type i z bytes ht hi hz hsize hby hzs hsz hb1 hX v n xs hown h1 hbytes
  unfold Oper.wp execOp
  simp only [ho, resolve, invoke, builtin, Sem.run_bind, Sem.run_pure, Result.andThen_ok, List.map_toArray, List.map_cons, List.map_nil, hs, hx, hr]
  exact h v' w' h2 h3 h4

end Go.Proofs.YtlbbbafehhdpnaaDoor
