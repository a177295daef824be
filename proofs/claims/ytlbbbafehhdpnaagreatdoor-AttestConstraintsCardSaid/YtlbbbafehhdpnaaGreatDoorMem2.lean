/- More lemmas about memory: make with a length below the capacity; what is owned, behind calls. No program in sight. -/
import Derived.Test.YtlbbbafehhdpnaaGreatDoorMem
import Derived.Test.YtlbbbafehhdpnaaGreatDoorRows
import Derived.Maps.AppendAt
namespace Go.Proofs.YtlbbbafehhdpnaaGreatDoor
set_option linter.unusedVariables false
set_option linter.unusedSimpArgs false
open Go.RowKit

theorem own_below {w w' : World} {B : Nat} {e : TypeId} {size n : Nat} {v : Value} {xs : List Value} (h : w.ownsRow B e size v n xs) (hb : Below w.heap.size w w') : w'.ownsRow B e size v n xs :=
  h.kept (row := none) ⟨hb.os, hb.tape, hb.output, hb.size, fun k hk _ => hb.block k hk⟩ (by cases v.ownBlock <;> simp)
theorem below_drewN {B : Nat} {a w : World} (h : Below B a w) (q : Nat) : Below B a (w.drewN q) := ⟨h.os, h.tape, h.output, h.size, h.block⟩
theorem below_drewN' {B : Nat} {a w : World} (q : Nat) (h : Below B (a.drewN q) w) : Below B a w := ⟨h.os, h.tape, h.output, h.size, h.block⟩
theorem below_drew' {B : Nat} {a w : World} (h : Below B a.drew w) : Below B a w := ⟨h.os, h.tape, h.output, h.size, h.block⟩
/-- A slice of a value that was nil or is fresh: what is owned from nowhere. -/
theorem own_more {w : World} {B B' : Nat} {e : TypeId} {size n : Nat} {v : Value} {xs : List Value} (h : w.ownsRow B e size v n xs) (hB : B' ≤ B) : w.ownsRow B' e size v n xs := by
  refine ⟨h.1, ?_⟩
  rcases h.2 with h' | ⟨g, cap, cur, hv, hg, r⟩
  · exact .inl h'
  · exact .inr ⟨g, cap, cur, hv, by omega, r⟩

theorem own_new (w : World) (cur : Array Value) (E : TypeId) (n c : Nat) (ys : List Value) (hnc : n ≤ c) (hcm : c ≤ maxLen) (hs : cur.size = c) (hy : cur.toList.take n = ys) :
    (w.alloc (.cells cur E)).ownsRow w.heap.size E 1 (.slice (some ⟨w.heap.size, 0, none⟩) n c) n ys := by
  refine ⟨?_, .inr ⟨w.heap.size, c, cur, rfl, Nat.le_refl _, heap_alloc_new w _, hnc, hcm, by omega, by rw [Nat.mul_one]; exact hy⟩⟩
  rw [← hy, List.length_take]
  simp only [Array.length_toList]
  omega

/-- 'make([]T, n, c)', elements of one cell. -/
theorem make2 {P : Program} (B : Nat) (W0 w : World) {ops : Array Oper} {rest : List Oper} {o : Oper} {a : Act} {Q : Exit → Act → World → Prop}
    (hg : o.guard = none) (l c : Operand) (t : TypeId) (hop : o.op = Op.makeSlice t l c)
    (e : TypeId) (i : TypeInfo) (z : Value) (bytes : Nat) (h1 : P.underlying t = some (.slice e)) (h2 : P.info? e = some i) (h3 : i.zero = some z) (h4 : i.size = 1) (h5 : i.bytes = bytes) (hzs : z.cells = #[z]) (hb1 : 0 < bytes)
    (kl kc : IntKind) (L C : Int) (n cc : Nat) (hl : a.eval l = .int kl L) (hc : a.eval c = .int kc C) (hL : L = (n : Int)) (hC : C = (cc : Int)) (hncc : n ≤ cc) (b2 : cc * bytes ≤ 281474976710656)
    (ys : List Value) (hys : List.replicate n z = ys) (hB : B ≤ W0.heap.size) (hbel : Below B W0 w)
    (hK : ∀ w', w'.ownsRow w.heap.size e 1 (.slice (some ⟨w.heap.size, 0, none⟩) n cc) n ys → Below B W0 w' → w.grownBy w' none → wpList P ops Q rest (a.put o.dst (.slice (some ⟨w.heap.size, 0, none⟩) n cc)) w') :
    wpList P ops Q (o :: rest) a w := by
  have hm : cc ≤ cc * bytes := Nat.le_mul_of_pos_right _ hb1
  subst h5
  refine wpList_plain hg fun K hK' => ?_
  subst hL; subst hC
  have hrun := run_make (P := P) (w := w) t e i z h1 h2 h3 kl kc n cc (by omega) (by omega) (by
    have h : ((i.bytes * cc : Nat) : Int) ≤ 281474976710656 := by rw [Nat.mul_comm]; omega
    rwa [Int.natCast_mul] at h) (by omega)
  simp only [Int.toNat_natCast, h4, Nat.mul_one, hzs] at hrun
  unfold Oper.wp
  simp [execOp, hop, hl, hc, hrun, Result.andThen]
  have hgr : w.grownBy (w.alloc (.cells (madeCells #[z] cc) e)) none := World.grownBy_alloc w _ none
  refine hK' _ _ (hK _ ?_ (hbel.alloc (Nat.le_trans hB hbel.size) _) hgr)
  refine own_new w _ e n cc ys hncc (by unfold maxLen; omega) (by simp [madeCells]) ?_
  rw [toList_madeCells_one, List.take_replicate, Nat.min_eq_left hncc, hys]

end Go.Proofs.YtlbbbafehhdpnaaGreatDoor

namespace Go.Proofs.YtlbbbafehhdpnaaGreatDoor
set_option linter.unusedVariables false
set_option linter.unusedSimpArgs false
open Go.RowKit

theorem full_blk {w : World} {B g n : Nat} {e : TypeId} {ys : List Value} (h : w.ownsRow B e 1 (.slice (some ⟨g, 0, none⟩) n n) n ys) : w.heap[g]? = some (.cells ys.toArray e (0, 0)) := by
  rcases h.2 with ⟨h', _⟩ | ⟨g', cap, cur, hv, _, hh, _, _, hs, ht⟩
  · cases h'
  · injection hv with h1 h2 h3
    injection h1 with h1
    injection h1 with h1
    subst h1; subst h3
    rw [hh]
    rw [List.take_of_length_le (by simp; omega)] at ht
    rw [← ht]
theorem info_bool : (Tryz.prog.info? 4).map (fun i => (i.zero, i.size, i.bytes)) = some (some (.bool false), 1, 1) := by kernel_rfl

def boolL (xs : List Bool) : List Value := xs.map Value.bool
end Go.Proofs.YtlbbbafehhdpnaaGreatDoor

namespace Go.Proofs.YtlbbbafehhdpnaaGreatDoor
open Go.RowKit
set_option linter.unusedVariables false
set_option linter.unusedSimpArgs false

/-- Only the blocks of S, and new ones, have turned. -/
structure Fr (S : Nat → Prop) (w w' : World) : Prop where
  os : w'.os = w.os
  tape : w'.tape = w.tape
  output : w'.output = w.output
  size : w.heap.size ≤ w'.heap.size
  block : ∀ k, k < w.heap.size → ¬ S k → w'.heap[k]? = w.heap[k]?

section
variable {S S' : Nat → Prop} {w w1 w2 : World}
theorem Fr.refl (S : Nat → Prop) (w : World) : Fr S w w := ⟨rfl, rfl, rfl, Nat.le_refl _, fun _ _ _ => rfl⟩
theorem Fr.trans (h : Fr S w w1) (k : Fr S' w1 w2) (hs : ∀ b, S' b → S b ∨ w.heap.size ≤ b) : Fr S w w2 :=
  ⟨k.os.trans h.os, k.tape.trans h.tape, k.output.trans h.output, Nat.le_trans h.size k.size, fun b hb hn =>
    (k.block b (Nat.lt_of_lt_of_le hb h.size) (fun hs' => by rcases hs b hs' with h' | h'; exact hn h'; omega)).trans (h.block b hb hn)⟩
theorem Fr.mono (h : Fr S w w1) (hs : ∀ b, b < w.heap.size → S b → S' b) : Fr S' w w1 := ⟨h.os, h.tape, h.output, h.size, fun b hb hn => h.block b hb (fun h' => hn (hs b hb h'))⟩
theorem Fr.drew (h : Fr S w w1) : Fr S w w1.drew := ⟨h.os, h.tape, h.output, h.size, h.block⟩
theorem Fr.drewN (h : Fr S w w1) (q : Nat) : Fr S w (w1.drewN q) := ⟨h.os, h.tape, h.output, h.size, h.block⟩
theorem Fr.alloc (h : Fr S w w1) (o : Obj) : Fr S w (w1.alloc o) :=
  ⟨h.os, h.tape, h.output, Nat.le_trans h.size (by simp), fun b hb hn => (Below.heap_alloc w1 o b (Nat.lt_of_lt_of_le hb h.size)).trans (h.block b hb hn)⟩
theorem Fr.setCell (h : Fr S w w1) (p : Addr) (u : Value) (hp : S p.block ∨ w.heap.size ≤ p.block) : Fr S w (w1.setCell p u) :=
  ⟨h.os, h.tape, h.output, by simpa [World.setCell] using h.size, fun b hb hn => (Below.heap_setCell w1 p u b (by rintro rfl; rcases hp with hp | hp; exact hn hp; omega)).trans (h.block b hb hn)⟩
theorem Fr.of_below (h : Below w.heap.size w w1) : Fr S w w1 := ⟨h.os, h.tape, h.output, h.size, fun b hb _ => h.block b hb⟩
theorem Fr.of_grown {row : Option Nat} (h : w.grownBy w1 row) (hr : ∀ k, row = some k → S k ∨ w.heap.size ≤ k) : Fr S w w1 :=
  ⟨h.os, h.tape, h.output, h.size, fun b hb hn => h.block b hb (fun e => by rcases hr b e.symm with h' | h'; exact hn h'; omega)⟩
theorem Fr.below {B : Nat} (h : Fr S w w1) (hB : B ≤ w.heap.size) (hs : ∀ b, S b → B ≤ b) : Below B w w1 :=
  ⟨h.os, h.tape, h.output, h.size, fun b hb => h.block b (by omega) (fun h' => by have := hs b h'; omega)⟩
theorem Fr.cell (h : Fr S w w1) {p : Addr} (hp : p.block < w.heap.size) (hn : ¬ S p.block) : w1.cell? p = w.cell? p := World.cell?_of_block (h.block p.block hp hn)
theorem Fr.own {B : Nat} {e : TypeId} {size n : Nat} {v : Value} {xs : List Value} (h : Fr S w w1) (ho : w.ownsRow B e size v n xs) (hn : ∀ b, v.ownBlock = some b → ¬ S b) : w1.ownsRow B e size v n xs := by
  refine ⟨ho.1, ?_⟩
  rcases ho.2 with h' | ⟨g, cap, cur, hv, hg, hh, r⟩
  · exact .inl h'
  · refine .inr ⟨g, cap, cur, hv, hg, ?_, r⟩
    rw [h.block g (Array.getElem?_eq_some_iff.1 hh).1 (hn g (by rw [hv]; rfl))]
    exact hh
theorem Fr.rd {size n : Nat} {A : Option Addr} {xs : List Value} (h : Fr S w w1) (hr : Rd w size A n xs) (hn : ∀ b o, A = some ⟨b, o, none⟩ → ¬ S b) : Rd w1 size A n xs :=
  ⟨hr.1, fun h0 => by
    obtain ⟨b, o, e, hc⟩ := hr.2 h0
    exact ⟨b, o, e, fun j u hu => (h.cell (World.block_lt_of_cell? w _ (hc j u hu)) (hn b o e)).trans (hc j u hu)⟩⟩
end

/-- the slice's own block, if any, as a set -/
def ownS (v : Value) : Nat → Prop := fun b => v.ownBlock = some b

/-- A row of elements of one type shares no block with a row, or a block, of another. -/
theorem own_type {w : World} {B : Nat} {e : TypeId} {size n : Nat} {v : Value} {xs : List Value} (h : w.ownsRow B e size v n xs) {g : Nat} {cs : Array Value} {t : TypeId} {m : Nat × Nat} (hg : w.heap[g]? = some (.cells cs t m)) (hne : e ≠ t) : v.ownBlock ≠ some g := by
  rcases h.2 with ⟨rfl, _⟩ | ⟨g', cap, cur, rfl, _, hh, _⟩
  · simp [Value.ownBlock]
  · intro he
    have : g' = g := by simpa [Value.ownBlock] using he
    subst this
    rw [hh] at hg
    injection hg with hg
    injection hg with _ ht
    exact hne ht
theorem own_map {w : World} {B : Nat} {e : TypeId} {size n : Nat} {v : Value} {xs : List Value} (h : w.ownsRow B e size v n xs) {g : Nat} {es : Array MapEntry} {c : Nat} (hg : w.heap[g]? = some (.map es c)) : v.ownBlock ≠ some g := by
  rcases h.2 with ⟨rfl, _⟩ | ⟨g', cap, cur, rfl, _, hh, _⟩
  · simp [Value.ownBlock]
  · intro he
    have : g' = g := by simpa [Value.ownBlock] using he
    subst this
    rw [hh] at hg
    cases hg
theorem own_own {w : World} {B B' : Nat} {e e' : TypeId} {size n size' n' : Nat} {v v' : Value} {xs xs' : List Value} (h : w.ownsRow B e size v n xs) (h' : w.ownsRow B' e' size' v' n' xs') (hne : e ≠ e') {b : Nat} (hb : v.ownBlock = some b) : v'.ownBlock ≠ some b := by
  rcases h'.2 with ⟨rfl, _⟩ | ⟨g', cap, cur, rfl, _, hh, _⟩
  · simp [Value.ownBlock]
  · intro he
    have : g' = b := by simpa [Value.ownBlock] using he
    subst this
    exact own_type h hh hne hb
theorem own_lt {w : World} {B : Nat} {e : TypeId} {size n : Nat} {v : Value} {xs : List Value} (h : w.ownsRow B e size v n xs) {b : Nat} (hb : v.ownBlock = some b) : B ≤ b ∧ b < w.heap.size := h.lt b hb

theorem cell_of_blk {w : World} {g : Nat} {cs : Array Value} {t : TypeId} (h : w.heap[g]? = some (.cells cs t (0, 0))) (i : Nat) : w.cell? ⟨g, i, none⟩ = cs[i]? := cell_of_row w g i cs t (0, 0) h
theorem frozen_of_blk {w : World} {g : Nat} {cs : Array Value} {t : TypeId} (h : w.heap[g]? = some (.cells cs t (0, 0))) (i : Nat) : w.frozen? ⟨g, i, none⟩ = false := frozen_of_row w g i cs t h
theorem lt_of_blk {w : World} {g : Nat} {o : Obj} (h : w.heap[g]? = some o) : g < w.heap.size := (Array.getElem?_eq_some_iff.1 h).1
theorem set_blk {w : World} {g : Nat} {cs : Array Value} {t : TypeId} (h : w.heap[g]? = some (.cells cs t (0, 0))) (i : Nat) (u : Value) : (w.setCell ⟨g, i, none⟩ u).heap[g]? = some (.cells (cs.setIfInBounds i u) t (0, 0)) := by
  simp [World.setCell, Array.getElem?_modify, h]
theorem set_far {w : World} {g : Nat} {p : Addr} (hp : g ≠ p.block) (u : Value) : (w.setCell p u).heap[g]? = w.heap[g]? := Below.heap_setCell w p u g hp
theorem alloc_old {w : World} {g : Nat} (o : Obj) (h : g < w.heap.size) : (w.alloc o).heap[g]? = w.heap[g]? := Below.heap_alloc w o g h

/-- append of one element of several cells that lies in a new block of its own: the run. -/
theorem run_appS {P : Program} (w : World) (size : Nat) (Xs : Array Value) (E t ty : TypeId) (i : TypeInfo) (z : Value) (bytes : Nat) (ht : P.underlying t = some (.slice E)) (hi : P.info? E = some i) (hz : i.zero = some z)
    (hsize : i.size = size) (hby : i.bytes = bytes) (hzs : z.cells.size = size) (hsz : 0 < size) (hb1 : 0 < bytes) (hX : Xs.size = size)
    (v : Value) (n : Nat) (xs : List Value) (hown : w.ownsRow 0 E size v n xs) (h1 : ∀ u ∈ Xs.toList, u.oneCell' = true) (hbytes : (n + 1) * bytes ≤ 140737488355328) :
    ∃ v' w', (Builtin.append_ #[t, t] ty #[v, .slice (some ⟨w.heap.size, 0, none⟩) 1 1]).run P (w.alloc (.cells Xs E)) = .ok v' w' ∧
      w'.ownsRow 0 E size v' (n + 1) (xs ++ Xs.toList) ∧ Fr (ownS v) w w' ∧ (v'.ownBlock = v.ownBlock ∨ v'.ownBlock = some (w.heap.size + 1)) := by
  have hm : n + 1 ≤ (n + 1) * bytes := Nat.le_mul_of_pos_right _ hb1
  obtain ⟨v', w', hr, h2, h3, _, h4⟩ := run_append_own_at (P := P) (w := w.alloc (.cells Xs E)) 0 t ty E i z size bytes ht hi hz hsize hby hzs hsz v n xs (hown.alloc _) ⟨w.heap.size, 0, none⟩ 1 1 Xs.toList (by simp [hX]) (by
    intro j u hu
    rw [addr_add_none, Nat.zero_add]
    simp at hu
    simp [hu]) h1 (by unfold maxLen; omega) hbytes (by simp)
  refine ⟨v', w', hr, h2, ?_, by simpa using h4⟩
  have ha : Fr (ownS v) w (w.alloc (.cells Xs E)) := (Fr.refl _ _).alloc _
  exact ha.trans (Fr.of_grown (S := ownS v) h3 (fun k hk => .inl hk)) (fun b hb => .inl hb)

theorem appS {P : Program} (w : World) (size : Nat) (Xs : Array Value) (E : TypeId) {ops : Array Oper} {rest : List Oper} {o : Oper} {a : Act} {Q : Exit → Act → World → Prop} (hgd : o.guard = none) (s x : Operand) (t : TypeId)
    (ho : o.op = .call { callee := .builtin .append, args := #[s, x], argTypes := #[t, t] })
    (i : TypeInfo) (z : Value) (bytes : Nat) (ht : P.underlying t = some (.slice E)) (hi : P.info? E = some i) (hz : i.zero = some z)
    (hsize : i.size = size) (hby : i.bytes = bytes) (hzs : z.cells.size = size) (hsz : 0 < size) (hb1 : 0 < bytes) (hX : Xs.size = size)
    (v : Value) (n : Nat) (xs : List Value) (hs : a.eval s = v) (hown : w.ownsRow 0 E size v n xs)
    (hx : a.eval x = .slice (some ⟨w.heap.size, 0, none⟩) 1 1) (h1 : ∀ u ∈ Xs.toList, u.oneCell' = true) (hbytes : (n + 1) * bytes ≤ 140737488355328)
    (h : ∀ v' w', w'.ownsRow 0 E size v' (n + 1) (xs ++ Xs.toList) → Fr (ownS v) w w' → (v'.ownBlock = v.ownBlock ∨ v'.ownBlock = some (w.heap.size + 1)) → wpList P ops Q rest (a.put o.dst v') w') :
    wpList P ops Q (o :: rest) a (w.alloc (.cells Xs E)) := by
  refine wpList_plain hgd fun K hK => ?_
  obtain ⟨v', w', hr, h2, h3, h4⟩ := run_appS (P := P) w size Xs E t o.type i z bytes ht hi hz hsize hby hzs hsz hb1 hX v n xs hown h1 hbytes
  unfold Oper.wp execOp
  simp only [ho, resolve, invoke, builtin, Sem.run_bind, Sem.run_pure, Result.andThen_ok, List.map_toArray, List.map_cons, List.map_nil, hs, hx, hr]
  exact hK _ _ (h v' w' h2 h3 h4)

/-- .. as one step of a region that draws its order. -/
theorem stepS {P : Program} (w : World) (size : Nat) (Xs : Array Value) (E : TypeId) {ops : Array Oper} {o : Oper} {a : Act} {K : Act → World → Prop} {Q : Exit → Act → World → Prop} {E' : Prop} (hgd : o.guard = none) (s x : Operand) (t : TypeId)
    (ho : o.op = .call { callee := .builtin .append, args := #[s, x], argTypes := #[t, t] })
    (i : TypeInfo) (z : Value) (bytes : Nat) (ht : P.underlying t = some (.slice E)) (hi : P.info? E = some i) (hz : i.zero = some z)
    (hsize : i.size = size) (hby : i.bytes = bytes) (hzs : z.cells.size = size) (hsz : 0 < size) (hb1 : 0 < bytes) (hX : Xs.size = size)
    (v : Value) (n : Nat) (xs : List Value) (hs : a.eval s = v) (hown : w.ownsRow 0 E size v n xs)
    (hx : a.eval x = .slice (some ⟨w.heap.size, 0, none⟩) 1 1) (h1 : ∀ u ∈ Xs.toList, u.oneCell' = true) (hbytes : (n + 1) * bytes ≤ 140737488355328)
    (h : ∀ v' w', w'.ownsRow 0 E size v' (n + 1) (xs ++ Xs.toList) → Fr (ownS v) w w' → (v'.ownBlock = v.ownBlock ∨ v'.ownBlock = some (w.heap.size + 1)) → K (a.put o.dst v') w') :
    if Region.wanted o (yielded ops a.tmps) = true then Oper.wp P o a (w.alloc (.cells Xs E)) K Q else E' := by
  have hw : Region.wanted o (yielded ops a.tmps) = true := by simp [Region.wanted, hgd]
  rw [if_pos hw]
  obtain ⟨v', w', hr, h2, h3, h4⟩ := run_appS (P := P) w size Xs E t o.type i z bytes ht hi hz hsize hby hzs hsz hb1 hX v n xs hown h1 hbytes
  unfold Oper.wp execOp
  simp only [ho, resolve, invoke, builtin, Sem.run_bind, Sem.run_pure, Result.andThen_ok, List.map_toArray, List.map_cons, List.map_nil, hs, hx, hr]
  exact h v' w' h2 h3 h4

end Go.Proofs.YtlbbbafehhdpnaaGreatDoor

namespace Go.Proofs.YtlbbbafehhdpnaaGreatDoor
set_option linter.unusedVariables false
set_option linter.unusedSimpArgs false

def bvl : List Bool → Nat
  | [] => 0
  | b :: l => b.toNat + 2 * bvl l
def cutB : List Bool → List Bool
  | [] => []
  | b :: l => match cutB l with
    | [] => if b then [true] else []
    | c :: r => b :: c :: r
def tight (l : List Bool) : Prop := cutB l = l

theorem bvl_cut (l : List Bool) : bvl (cutB l) = bvl l := by
  induction l with
  | nil => rfl
  | cons b l ih =>
    rw [cutB, bvl, ← ih]
    cases h : cutB l with
    | nil => cases b <;> simp [bvl]
    | cons c r => simp [bvl]
theorem cut_false (l : List Bool) : cutB (l ++ [false]) = cutB l := by
  induction l with
  | nil => rfl
  | cons b l ih => rw [List.cons_append, cutB, cutB, ih]
theorem cut_true (l : List Bool) : cutB (l ++ [true]) = l ++ [true] := by
  induction l with
  | nil => rfl
  | cons b l ih =>
    rw [List.cons_append, cutB, ih]
    cases l <;> rfl
theorem cut_length (l : List Bool) : (cutB l).length ≤ l.length := by
  induction l with
  | nil => exact Nat.le_refl _
  | cons b l ih =>
    rw [cutB]
    cases h : cutB l with
    | nil => cases b <;> simp
    | cons c r => rw [h] at ih; simp at ih ⊢; omega
theorem tight_cut (l : List Bool) : tight (cutB l) := by
  unfold tight
  induction l with
  | nil => rfl
  | cons b l ih =>
    rw [cutB]
    cases h : cutB l with
    | nil => cases b <;> rfl
    | cons c r =>
      rw [h] at ih
      show cutB (b :: c :: r) = _
      rw [cutB, ih]
theorem tight_nil : tight [] := rfl
theorem bvl_lt (l : List Bool) : bvl l < 2 ^ l.length := by
  induction l with
  | nil => simp [bvl]
  | cons b l ih =>
    rw [bvl, List.length_cons, Nat.pow_succ]
    have : b.toNat ≤ 1 := by cases b <;> simp
    omega
theorem bvl_append (a b : List Bool) : bvl (a ++ b) = bvl a + 2 ^ a.length * bvl b := by
  induction a with
  | nil => simp [bvl]
  | cons x a ih =>
    rw [List.cons_append, bvl, bvl, ih, List.length_cons, Nat.pow_succ]
    have e : 2 ^ a.length * 2 * bvl b = 2 * (2 ^ a.length * bvl b) := by rw [Nat.mul_assoc, Nat.mul_left_comm]
    omega
theorem tight_cons {b : Bool} {l : List Bool} (h : tight (b :: l)) : tight l ∧ (l = [] → b = true) := by
  unfold tight at h ⊢
  rw [cutB] at h
  cases hc : cutB l with
  | nil =>
    rw [hc] at h
    cases b
    · simp at h
    · simp at h
      subst h
      exact ⟨rfl, fun _ => rfl⟩
  | cons c r =>
    rw [hc] at h
    simp at h
    refine ⟨h, fun e => ?_⟩
    subst e
    cases h
theorem tight_ge (l : List Bool) (h : tight l) (hne : l ≠ []) : 2 ^ l.length ≤ 2 * bvl l := by
  induction l with
  | nil => exact absurd rfl hne
  | cons b l ih =>
    obtain ⟨h1, h2⟩ := tight_cons h
    rw [bvl, List.length_cons, Nat.pow_succ]
    cases l with
    | nil => simp [h2 rfl, bvl]
    | cons c r =>
      have := ih h1 (by simp)
      omega
theorem tight_zero (l : List Bool) (h : tight l) : (l.length = 0 ↔ bvl l = 0) := by
  constructor
  · intro e
    rw [List.eq_nil_of_length_eq_zero e]
    rfl
  · intro e
    cases l with
    | nil => rfl
    | cons b l =>
      have := tight_ge _ h (by simp)
      have h2 : 0 < 2 ^ (b :: l).length := Nat.pow_pos (by omega)
      omega
/-- a shorter one is less. -/
theorem tight_lt (a b : List Bool) (hb : tight b) (h : a.length < b.length) : bvl a < bvl b := by
  have h1 := bvl_lt a
  have h2 := tight_ge b hb (by intro e; subst e; simp at h)
  have h3 : 2 ^ (a.length + 1) ≤ 2 ^ b.length := Nat.pow_le_pow_right (by omega) h
  rw [Nat.pow_succ] at h3
  omega
theorem tight_len (a b : List Bool) (hb : tight b) (h : bvl b ≤ bvl a) : b.length ≤ a.length := by
  rcases Nat.lt_or_ge a.length b.length with h1 | h1
  · have := tight_lt a b hb h1
    omega
  · exact h1
theorem bvl_top (a b : List Bool) (k : Nat) (hl : a.length = b.length) (hk : k < a.length) (hd : a.drop (k + 1) = b.drop (k + 1)) (h1 : a[k] = false) (h2 : b[k] = true) : bvl a < bvl b := by
  have e1 : a = a.take k ++ (false :: a.drop (k + 1)) := by rw [← h1]; simp
  have e2 : b = b.take k ++ (true :: a.drop (k + 1)) := by rw [hd, ← h2]; simp
  have hx := bvl_lt (a.take k)
  rw [List.length_take, Nat.min_eq_left (by omega)] at hx
  rw [e1, e2, bvl_append, bvl_append, List.length_take, List.length_take, Nat.min_eq_left (by omega), Nat.min_eq_left (by omega), bvl, bvl]
  simp
  generalize bvl (a.drop (k + 1)) = z
  generalize 2 ^ k = p at *
  have e3 : p * (1 + 2 * z) = p + p * (2 * z) := by rw [Nat.mul_add, Nat.mul_one]
  rw [e3]
  omega
/-- the difference, bit by bit. -/
theorem sub_step (o x y ow x' y' ow' d p : Nat) (h : o + y = x + ow * p) (hd : d + y' + ow = x' + 2 * ow') : o + p * d + (y + p * y') = x + p * x' + ow' * (p * 2) := by
  have h3 : p * d + p * y' + p * ow = p * x' + p * (2 * ow') := by rw [← Nat.mul_add, ← Nat.mul_add, ← Nat.mul_add, hd]
  have e1 : ow' * (p * 2) = p * (2 * ow') := by rw [Nat.mul_comm, Nat.mul_assoc]
  have e2 : p * ow = ow * p := Nat.mul_comm _ _
  omega
theorem bvl_take (l : List Bool) (i : Nat) (h : i < l.length) : bvl (l.take (i + 1)) = bvl (l.take i) + 2 ^ i * l[i].toNat := by
  rw [List.take_succ_eq_append_getElem h, bvl_append, List.length_take, Nat.min_eq_left (by omega)]
  simp [bvl]
theorem bvl_snoc (l : List Bool) (b : Bool) : bvl (l ++ [b]) = bvl l + 2 ^ l.length * b.toNat := by
  rw [bvl_append]
  simp [bvl]
end Go.Proofs.YtlbbbafehhdpnaaGreatDoor
