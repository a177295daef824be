/- More lemmas about memory: make with a length below the capacity; what is owned, behind calls. No program in sight. -/
import Derived.Test.YtlbbbafehhdpnaaDoorMem
namespace Go.Proofs.YtlbbbafehhdpnaaDoor
open Go.RowKit

theorem own_below {w w' : World} {B : Nat} {e : TypeId} {size n : Nat} {v : Value} {xs : List Value} (h : w.ownsRow B e size v n xs) (hb : Below w.heap.size w w') : w'.ownsRow B e size v n xs :=
  h.kept (row := none) ⟨hb.os, hb.tape, hb.output, hb.size, fun k hk _ => hb.block k hk⟩ (by cases v.ownBlock <;> simp)
theorem below_drewN {B : Nat} {a w : World} (h : Below B a w) (q : Nat) : Below B a (w.drewN q) := ⟨h.os, h.tape, h.output, h.size, h.block⟩
theorem below_drewN' {B : Nat} {a w : World} (q : Nat) (h : Below B (a.drewN q) w) : Below B a w := ⟨h.os, h.tape, h.output, h.size, h.block⟩
theorem below_drew' {B : Nat} {a w : World} (h : Below B a.drew w) : Below B a w := ⟨h.os, h.tape, h.output, h.size, h.block⟩
/-- A slice of a value that was nil or is fresh: what is owned from nowhere. -/
theorem own_more {w : World} {B B' : Nat} {e : TypeId} {size n : Nat} {v : Value} {xs : List Value} (h : w.ownsRow B e size v n xs) (hB : B' ≤ B) : w.ownsRow B' e size v n xs := by
  refine ⟨h.1, ?_⟩
  rcases h.2 with h' | ⟨g, cap, cur, hv, hg, r⟩
  · exact .inl h'
  · exact .inr ⟨g, cap, cur, hv, by omega, r⟩

theorem own_new (w : World) (cur : Array Value) (E : TypeId) (n c : Nat) (ys : List Value) (hnc : n ≤ c) (hcm : c ≤ maxLen) (hs : cur.size = c) (hy : cur.toList.take n = ys) :
    (w.alloc (.cells cur E)).ownsRow w.heap.size E 1 (.slice (some ⟨w.heap.size, 0, none⟩) n c) n ys := by
  refine ⟨?_, .inr ⟨w.heap.size, c, cur, rfl, Nat.le_refl _, heap_alloc_new w _, hnc, hcm, by omega, by rw [Nat.mul_one]; exact hy⟩⟩
  rw [← hy, List.length_take]
  simp only [Array.length_toList]
  omega

/-- 'make([]T, n, c)', elements of one cell. -/
theorem make2 {P : Program} (B : Nat) (W0 w : World) {ops : Array Oper} {rest : List Oper} {o : Oper} {a : Act} {Q : Exit → Act → World → Prop}
    (hg : o.guard = none) (l c : Operand) (t : TypeId) (hop : o.op = Op.makeSlice t l c)
    (e : TypeId) (i : TypeInfo) (z : Value) (bytes : Nat) (h1 : P.underlying t = some (.slice e)) (h2 : P.info? e = some i) (h3 : i.zero = some z) (h4 : i.size = 1) (h5 : i.bytes = bytes) (hzs : z.cells = #[z]) (hb1 : 0 < bytes)
    (kl kc : IntKind) (L C : Int) (n cc : Nat) (hl : a.eval l = .int kl L) (hc : a.eval c = .int kc C) (hL : L = (n : Int)) (hC : C = (cc : Int)) (hncc : n ≤ cc) (b2 : cc * bytes ≤ 281474976710656)
    (ys : List Value) (hys : List.replicate n z = ys) (hB : B ≤ W0.heap.size) (hbel : Below B W0 w)
    (hK : ∀ w', w'.ownsRow w.heap.size e 1 (.slice (some ⟨w.heap.size, 0, none⟩) n cc) n ys → Below B W0 w' → w.grownBy w' none → wpList P ops Q rest (a.put o.dst (.slice (some ⟨w.heap.size, 0, none⟩) n cc)) w') :
    wpList P ops Q (o :: rest) a w := by
  have hm : cc ≤ cc * bytes := Nat.le_mul_of_pos_right _ hb1
  subst h5
  refine wpList_plain hg fun K hK' => ?_
  subst hL; subst hC
  have hrun := run_make (P := P) (w := w) t e i z h1 h2 h3 kl kc n cc (by omega) (by omega) (by
    have h : ((i.bytes * cc : Nat) : Int) ≤ 281474976710656 := by rw [Nat.mul_comm]; omega
    rwa [Int.natCast_mul] at h) (by omega)
  simp only [Int.toNat_natCast, h4, Nat.mul_one, hzs] at hrun
  unfold Oper.wp
  simp [execOp, hop, hl, hc, hrun, Result.andThen]
  have hgr : w.grownBy (w.alloc (.cells (madeCells #[z] cc) e)) none := World.grownBy_alloc w _ none
  refine hK' _ _ (hK _ ?_ (hbel.alloc (Nat.le_trans hB hbel.size) _) hgr)
  refine own_new w _ e n cc ys hncc (by unfold maxLen; omega) (by simp [madeCells]) ?_
  rw [toList_madeCells_one, List.take_replicate, Nat.min_eq_left hncc, hys]

end Go.Proofs.YtlbbbafehhdpnaaDoor
