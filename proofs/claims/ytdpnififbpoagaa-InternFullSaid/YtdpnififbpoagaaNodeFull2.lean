/- attestlaw10.InternFull: the walk. -/
import Derived.Test.YtdpnififbpoagaaNodeFull
import Derived.Deep.DeepCutAuto
namespace Go.Proofs.Ytdpnififbpoagaa
open Go.RowKit
set_option linter.unusedVariables false
set_option linter.unusedSimpArgs false

theorem Tab.lt {w : World} {tb mb : Nat} {sv : Value} {ns : List Nd} (h : Tab w tb mb sv ns) (b : Nat) (hb : TS tb mb sv b) : b < w.heap.size := by
  rcases hb with rfl | rfl | hb
  · exact lt_of_blk h.blk
  · obtain ⟨ps, hp, _⟩ := h.map
    exact lt_of_blk hp
  · exact (own_lt h.own hb).2
/-- the other table: not yet made up, or as great; apart from T. -/
def ZSt (B : Nat) (w : World) (zb : Nat) (T : Nat → Prop) (v : Nat) : Prop :=
  (v = 0 ∧ w.heap[zb]? = some (.cells #[.slice none 0 0, .map none] 86 (0, 0)) ∧ ¬ T zb ∧ B ≤ zb) ∨ (0 < v ∧ ∃ mb sv, TabB B w zb mb sv (varN v) ∧ ∀ b, TS zb mb sv b → ¬ T b)
theorem ZSt.step {B : Nat} {w w' : World} {zb : Nat} {T T' : Nat → Prop} {v : Nat} (h : ZSt B w zb T v) (hf : Fr T w w') (hT : ∀ b, b < w.heap.size → T' b → T b) : ZSt B w' zb T' v := by
  rcases h with ⟨h1, h2, h3, h4⟩ | ⟨h1, mb, sv, h2, h3⟩
  · have hz := lt_of_blk h2
    exact .inl ⟨h1, (hf.block zb hz h3).trans h2, fun ht => h3 (hT zb hz ht), h4⟩
  · refine .inr ⟨h1, mb, sv, ⟨h2.tab.keep hf (h3 _ (.inl rfl)) (h3 _ (.inr (.inl rfl))) (fun b hb => h3 b (.inr (.inr hb))), h2.le⟩, fun b hb ht => h3 b hb (hT b (h2.tab.lt b hb) ht)⟩
theorem varN_neg (v : Nat) : ∀ i, i < (varN v).length → (nd (varN v) i).k = 4 → 0 ≤ (nd (varN v) i).a := fun i hi h => absurd h (varN_kind v i hi).1

theorem after_TS {w w' : World} {tb mb : Nat} {sv sv' : Value} (hn : ∀ b, sv'.ownBlock = some b → sv.ownBlock = some b ∨ w.heap.size ≤ b) (b : Nat) (hlt : b < w.heap.size) (h : TS tb mb sv' b) : TS tb mb sv b := by
  rcases h with rfl | rfl | h
  · exact .inl rfl
  · exact .inr (.inl rfl)
  · rcases hn b h with h | h
    · exact .inr (.inr h)
    · omega

/-- an operation on the first table. -/
theorem tdo_any (B tb mb : Nat) (sv : Value) (zb : Nat) (v : Nat) (ns : List Nd) (o : Nd) (w : World) (hB : B ≤ w.heap.size) (h : TabB B w tb mb sv ns) (hneg : ∀ i, i < ns.length → (nd ns i).k = 4 → 0 ≤ (nd ns i).a) (hz : ZSt B w zb (TS tb mb sv) v) :
    Calls Try.prog 22 #[.pointer (some ⟨tb, 0, none⟩), .agg #[.int .i64 o.k, .int .i64 o.a, .int .i64 o.b]] w fun e w' => e = .returned (ansV (doN ns o).2) ∧ ∃ sv', TabB B w' tb mb sv' (doN ns o).1 ∧ ZSt B w' zb (TS tb mb sv') v ∧ Below B w w' := by
  refine (do_any tb mb sv ns o w h.tab hneg).mono ?_
  rintro e w' ⟨rfl, ha⟩
  obtain ⟨sv1, ht1, hf1, hn1⟩ := ha
  obtain ⟨sv', ht, hf, hb⟩ := h.after hB ⟨sv1, ht1, hf1, hn1⟩
  refine ⟨rfl, sv1, ⟨ht1, fun b hb => ?_⟩, hz.step hf1 (fun b hlt hT => after_TS (w' := w') hn1 b hlt hT), hb⟩
  rcases hb with rfl | rfl | hb
  · exact h.le _ (.inl rfl)
  · exact h.le _ (.inr (.inl rfl))
  · rcases hn1 b hb with h' | h'
    · exact h.le b (.inr (.inr h'))
    · omega
/-- an operation on the other table. -/
theorem zdo_any (B tb mb : Nat) (sv : Value) (zb : Nat) (v : Nat) (ns : List Nd) (w : World) (hB : B ≤ w.heap.size) (h : TabB B w tb mb sv ns) (hz : ZSt B w zb (TS tb mb sv) v) :
    Calls Try.prog 22 #[.pointer (some ⟨zb, 0, none⟩), .agg #[.int .i64 3, .int .i64 (v : Int), .int .i64 0]] w fun e w' => e = .returned (ansV (if v < 19998 then some (v + 2) else none)) ∧ TabB B w' tb mb sv ns ∧ ZSt B w' zb (TS tb mb sv) (v + 1) ∧ Below B w w' := by
  have hdv := do_var v
  rcases hz with ⟨rfl, h2, h3, h4⟩ | ⟨h1, mz, sz, h2, h3⟩
  · have hp : putN ns0 ⟨3, ((0 : Nat) : Int), 0⟩ = (varN 1, some 2) := by
      rw [varN_zero] at hdv
      have : doN ns0 ⟨3, ((0 : Nat) : Int), 0⟩ = putN ns0 ⟨3, ((0 : Nat) : Int), 0⟩ := by
        unfold doN
        simp
      rw [← this, hdv]
      rfl
    refine (dozero_any zb ((0 : Nat) : Int) (by omega) w h2).mono ?_
    rw [hp]
    rintro e w' ⟨rfl, sz, mz, hf⟩
    have hzl := lt_of_blk h2
    have ht : Tab w' tb mb sv ns := h.tab.keep hf.fr (fun e => h3 (.inl e.symm)) (fun e => h3 (.inr (.inl e.symm))) (fun b hb e => h3 (.inr (.inr (e ▸ hb))))
    refine ⟨rfl, ⟨ht, h.le⟩, .inr ⟨by omega, mz, sz, ⟨hf.tab, fun b hb => ?_⟩, fun b hb hT => ?_⟩, hf.fr.below hB (fun b e => by rw [e]; exact h4)⟩
    · rcases hb with rfl | rfl | hb
      · exact h4
      · have := hf.mb; omega
      · have := hf.sv b hb; omega
    · have hlt := h.tab.lt b hT
      rcases hb with rfl | rfl | hb
      · exact h3 hT
      · have := hf.mb; omega
      · have := hf.sv b hb; omega
  · refine (do_any zb mz sz (varN v) ⟨3, (v : Int), 0⟩ w h2.tab (varN_neg v)).mono ?_
    rw [hdv]
    rintro e w' ⟨rfl, sz1, ht1, hf1, hn1⟩
    refine ⟨rfl, ⟨h.tab.keep hf1 (fun e => h3 _ e (.inl rfl)) (fun e => h3 _ e (.inr (.inl rfl))) (fun b hb e => h3 _ e (.inr (.inr hb))), h.le⟩, .inr ⟨by omega, mz, sz1, ⟨ht1, fun b hb => ?_⟩, fun b hb hT => ?_⟩, hf1.below hB h2.le⟩
    · rcases hb with rfl | rfl | hb
      · exact h2.le _ (.inl rfl)
      · exact h2.le _ (.inr (.inl rfl))
      · rcases hn1 b hb with h' | h'
        · exact h2.le b (.inr (.inr h'))
        · omega
    · exact h3 b (after_TS (w' := w') hn1 b (h.tab.lt b hT) hb) hT
end Go.Proofs.Ytdpnififbpoagaa
