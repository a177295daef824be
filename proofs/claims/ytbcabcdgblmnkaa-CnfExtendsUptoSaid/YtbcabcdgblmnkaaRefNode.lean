/- Contracts of package attestref10: find, not, Start. -/
import Derived.Test.YtbcabcdgblmnkaaNodeRd
import Derived.Test.YtbcabcdgblmnkaaOwnBase
namespace Go.Proofs.Ytbcabcdgblmnkaa
open Go.RowKit
set_option linter.unusedVariables false
set_option linter.unusedSimpArgs false

theorem info_rnode : (Try.prog.info? 108).map (fun i => (i.zero, i.size, i.bytes)) = some (some (.agg #[.int .i64 0, .int .i64 0, .int .i64 0]), 3, 24) := by kernel_rfl

theorem rd_new (w : World) (cs : Array Value) (E : TypeId) (size n : Nat) (h : cs.size = n * size) : Rd (w.alloc (.cells cs E)) size (some ⟨w.heap.size, 0, none⟩) n cs.toList := by
  refine ⟨by simpa using h, fun _ => ⟨w.heap.size, 0, rfl, fun j u hu => ?_⟩⟩
  rw [Nat.zero_add, cell_of_blk (heap_alloc_new w _) j]
  simpa using hu
theorem fidx_first (ns : List Nd) (n : Nd) (i k : Nat) (hk : k < ns.length) (he : nd ns k = n) (h : ∀ m, m < k → nd ns m ≠ n) : fidx ns n i = some (i + k) := by
  induction ns generalizing i k with
  | nil => simp at hk
  | cons m ns ih =>
    simp only [fidx]
    cases k with
    | zero => rw [if_pos (by simpa [nd] using he.symm)]; rfl
    | succ k =>
      have h0 := h 0 (by omega)
      rw [if_neg (by simpa [nd] using fun e => h0 (by simpa [nd] using e.symm)), ih (i + 1) k (by simpa using hk) (by simpa [nd] using he) (fun q hq => by simpa [nd] using h (q + 1) (by omega))]
      congr 1
      omega
theorem fidx_all (ns : List Nd) (n : Nd) (i : Nat) (h : ∀ m, m < ns.length → nd ns m ≠ n) : fidx ns n i = none := by
  induction ns generalizing i with
  | nil => rfl
  | cons m ns ih =>
    have h0 := h 0 (by simp)
    simp only [fidx]
    rw [if_neg (by simpa [nd] using fun e => h0 (by simpa [nd] using e.symm)), ih (i + 1) (fun q hq => by simpa [nd] using h (q + 1) (by simpa using hq))]

/-- the reference's nodes behind a call: the row v may have turned, nothing else. -/
structure RAf (B : Nat) (v : Value) (w w' : World) (v' : Value) (ns : List Nd) : Prop where
  own : w'.ownsRow B 108 3 v' ns.length (ndCells ns)
  fr : Fr (ownS v) w w'
  loc : ∀ b, v'.ownBlock = some b → v.ownBlock = some b ∨ w.heap.size ≤ b
theorem RAf.same {B : Nat} {v : Value} {w w' : World} {ns : List Nd} (ho : w.ownsRow B 108 3 v ns.length (ndCells ns)) (hb : Below w.heap.size w w') : RAf B v w w' v ns :=
  ⟨own_below ho hb, Fr.of_below hb, fun _ h => .inl h⟩

set_option maxRecDepth 100000 in
set_option maxHeartbeats 4000000 in
theorem rfind_any (B : Nat) (v : Value) (ns : List Nd) (n : Nd) (w : World) (hB : B ≤ w.heap.size) (h2 : 2 ≤ ns.length) (hm : ns.length ≤ 20000) (ho : w.ownsRow B 108 3 v ns.length (ndCells ns)) :
    Calls Try.prog 89 #[v, .agg #[.int .i64 n.k, .int .i64 n.a, .int .i64 n.b]] w fun e w' => ∃ v', e = .returned (.tuple #[v', .int .i64 (ansI (putN ns n).2)]) ∧ RAf B v w w' v' (putN ns n).1 := by
  obtain ⟨j0, hj, hy0, hy1, hy2⟩ := info_parts info_rnode
  obtain ⟨g, c, rfl, hgB, hg, hc⟩ := owned_form ho (by omega)
  obtain ⟨A, c', e, _, hr⟩ := ownsRow_form ho
  injection e with e1 e2 e3
  subst e1
  subst e3
  clear e2
  obtain ⟨nk, na, nb⟩ := n
  simp only
  have HO := Lib.hid ho
  have HR := Lib.hid hr
  clear ho hr
  go_enter Try.func89, Try.ntmps89
  go_wp2_with fail
  go_loopw [10] (fun i wr => ∃ k : Nat, k ≤ ns.length ∧ i = .int .i64 k ∧ Below (w.heap.size + 1) (w.alloc (.cells #[.int .i64 nk, .int .i64 na, .int .i64 nb] 108)) wr ∧ ∀ m, m < k → nd ns m ≠ ⟨nk, na, nb⟩) (fun i _ => ns.length - (intOf i).toNat)
  case atStart => exact ⟨0, Nat.zero_le _, rfl, Below.refl _ _, fun m hm => by omega⟩
  case round =>
    obtain ⟨k, hk, rfl, hbk, hq⟩ := hrel
    have hb0 : wr.heap[w.heap.size]? = some (.cells #[.int .i64 nk, .int .i64 na, .int .i64 nb] 108 (0, 0)) := (hbk.block w.heap.size (by omega)).trans (heap_alloc_new w _)
    have z0 : wr.cell? ⟨w.heap.size, 0, none⟩ = some (.int .i64 nk) := (cell_of_blk hb0 0).trans rfl
    have z1 : wr.cell? ⟨w.heap.size, 1, none⟩ = some (.int .i64 na) := (cell_of_blk hb0 1).trans rfl
    have z2 : wr.cell? ⟨w.heap.size, 2, none⟩ = some (.int .i64 nb) := (cell_of_blk hb0 2).trans rfl
    have hbw : Below w.heap.size w wr := (((Below.refl _ _).alloc (Nat.le_refl _) _).trans (hbk.mono (by omega)))
    have hsz : w.heap.size + 1 ≤ wr.heap.size := by simpa using hbk.size
    have hsz' : w.heap.size < wr.heap.size := hsz
    have HBW := Lib.hid hbw
    have HBK := Lib.hid hbk
    have HQ := Lib.hid hq
    clear hb0 hq hbw hbk
    by_cases hlt : k < ns.length
    · obtain ⟨x0, x1, x2⟩ := (HR.out.below HBW.out).nd3' k hlt rfl
      simp only [Nat.zero_add] at x0 x1 x2
      have hX : ∃ X, nd ns k = X := ⟨_, rfl⟩
      obtain ⟨⟨mk, ma, mb⟩, hX⟩ := hX
      rw [hX] at x0 x1 x2
      simp only at x0 x1 x2
      by_cases he : (⟨mk, ma, mb⟩ : Nd) = ⟨nk, na, nb⟩
      · have hf := fidx_first ns ⟨nk, na, nb⟩ 0 k hlt (hX.trans he) HQ.out
        rw [Nat.zero_add] at hf
        have hp : putN ns ⟨nk, na, nb⟩ = (ns, some k) := by unfold putN; rw [hf]
        have HP := Lib.hid hp
        injection he with e1 e2 e3
        subst e1; subst e2; subst e3
        clear hf hp hX
        go_wp2_with fail
        go_ret2
        rw [HP.out]
        exact ⟨_, rfl, RAf.same HO.out (HBW.out.alloc HBW.out.size _)⟩
      · have hne : nd ns k ≠ ⟨nk, na, nb⟩ := by rw [hX]; exact he
        have HNE := Lib.hid hne
        clear hX hne
        by_cases e1 : mk = nk
        · subst e1
          by_cases e2 : ma = na
          · subst e2
            have e3 : ¬ mb = nb := fun e3 => he (by rw [e3])
            clear he
            go_wp2_with fail
            go_roundw
            case rel =>
              refine ⟨k + 1, by omega, by go_num, (HBK.out.alloc (by simpa using HBK.out.size) _), fun m hm => ?_⟩
              by_cases hmk : m < k
              · exact HQ.out m hmk
              · obtain rfl : m = k := by omega
                exact HNE.out
            case measure => simp [intOf]; omega
          · clear he
            go_wp2_with fail
            go_roundw
            case rel =>
              refine ⟨k + 1, by omega, by go_num, (HBK.out.alloc (by simpa using HBK.out.size) _), fun m hm => ?_⟩
              by_cases hmk : m < k
              · exact HQ.out m hmk
              · obtain rfl : m = k := by omega
                exact HNE.out
            case measure => simp [intOf]; omega
        · clear he
          go_wp2_with fail
          go_roundw
          case rel =>
            refine ⟨k + 1, by omega, by go_num, (HBK.out.alloc (by simpa using HBK.out.size) _), fun m hm => ?_⟩
            by_cases hmk : m < k
            · exact HQ.out m hmk
            · obtain rfl : m = k := by omega
              exact HNE.out
          case measure => simp [intOf]; omega
    · obtain rfl : k = ns.length := by omega
      have hf := fidx_all ns ⟨nk, na, nb⟩ 0 HQ.out
      by_cases hfull : ns.length < 20000
      · have hp : putN ns ⟨nk, na, nb⟩ = (ns ++ [⟨nk, na, nb⟩], some ns.length) := by unfold putN; rw [hf]; simp [hfull]
        have HP := Lib.hid hp
        clear hf hp
        have hfull' : ¬ (20000 : Int) ≤ ns.length := by omega
        go_wp2_with (at_builtin; refine appS wr 3 #[.int .i64 nk, .int .i64 na, .int .i64 nb] 108 rfl _ _ 102 rfl j0 _ 24 Try.underlying102 hj hy0 hy1 hy2 rfl (by decide) (by decide) rfl (.slice (some ⟨g, 0, none⟩) ns.length c) ns.length (ndCells ns) rfl (own_more (own_below HO.out HBW.out) (Nat.zero_le _)) rfl (by intro u hu; simp at hu; rcases hu with rfl | rfl | rfl <;> rfl) (by omega) ?_)
        intro v' w' hown' hfr' hbk'
        have hloc : ∀ b, v'.ownBlock = some b → (Value.slice (some ⟨g, 0, none⟩) ns.length c).ownBlock = some b ∨ w.heap.size ≤ b := fun b hb => by
          rcases hbk' with e | e
          · rw [e] at hb; exact .inl hb
          · rw [e] at hb; injection hb with hb; exact .inr (by have := HBW.out.size; omega)
        have hB' : ∀ b, v'.ownBlock = some b → B ≤ b := fun b hb => by
          rcases hloc b hb with e | e
          · exact (own_lt HO.out e).1
          · omega
        have hown2 := own_base hown' hB'
        go_wp2_with fail
        go_ret2
        rw [HP.out]
        exact ⟨_, rfl, by rw [ndCells_append, ndCells_one, List.length_append]; exact hown2, (Fr.of_below HBW.out).trans hfr' (fun b hb => .inl hb), hloc⟩
      · have hp : putN ns ⟨nk, na, nb⟩ = (ns, none) := by unfold putN; rw [hf]; simp [hfull]
        have HP := Lib.hid hp
        clear hf hp
        have hfull' : (20000 : Int) ≤ ns.length := by omega
        go_wp2_with fail
        go_ret2
        rw [HP.out]
        exact ⟨_, rfl, RAf.same HO.out HBW.out⟩

theorem rnot_any (v : Value) (ns : List Nd) (a b B : Nat) (w : World) (ha : a < ns.length) (ho : w.ownsRow B 108 3 v ns.length (ndCells ns)) :
    Calls Try.prog 90 #[v, .int .i64 (a : Int), .int .i64 (b : Int)] w fun e w' => e = .returned (.bool (decide ((nd ns a).k = 4) && decide ((nd ns a).a = (b : Int)))) ∧ w' = w := by
  obtain ⟨g, c, rfl, hgB, hg, hc⟩ := owned_form ho (by omega)
  obtain ⟨A, c', e, _, hr⟩ := ownsRow_form ho
  injection e with e1 e2 e3
  subst e1
  obtain ⟨x0, x1, x2⟩ := hr.nd3' a ha rfl
  simp only [Nat.zero_add] at x0 x1 x2
  generalize nd ns a = x at *
  obtain ⟨xk, xa, xb⟩ := x
  simp only at x0 x1 x2 ⊢
  clear ho hr
  by_cases h1 : xk = 4
  · by_cases h2 : xa = (b : Int)
    · subst h1 h2
      go_enter Try.func90, Try.ntmps90
      go_wp2_with fail
      go_ret
      exact ⟨by simp, rfl⟩
    · go_enter Try.func90, Try.ntmps90
      go_wp2_with fail
      go_ret
      exact ⟨by simp [h1, h2], rfl⟩
  · go_enter Try.func90, Try.ntmps90
    go_wp2_with fail
    go_ret
    exact ⟨by simp [h1], rfl⟩

theorem rstart_any (w : World) :
    Calls Try.prog 60 #[] w fun e w' => ∃ v, e = .returned v ∧ w'.ownsRow w.heap.size 108 3 v 2 (ndCells ns0) ∧ Below w.heap.size w w' := by
  go_enter Try.func60, Try.ntmps60
  go_wp2_with fail
  go_ret
  refine ⟨_, rfl, ⟨rfl, .inr ⟨w.heap.size, 2, #[.int .i64 1, .int .i64 0, .int .i64 0, .int .i64 2, .int .i64 0, .int .i64 0], rfl, Nat.le_refl _, heap_alloc_new w _, by decide, by decide, by decide, rfl⟩⟩, (Below.refl _ _).alloc (Nat.le_refl _) _⟩
end Go.Proofs.Ytbcabcdgblmnkaa
