/-
  The statement of BitsPacks: for every input of the bulk that the row names the law returns true, and each argument reads behind the call as it did. Conditions: those of the given row (the second form); none of ours.
-/
import Derived.Test.YtffpjnabbmimgaaOpen
import Derived.Test.YtffpjnabbmimgaaBitsLaw2
import Derived.JoinedCond
import Derived.Deep.CondSized
import Derived.Test.YtffpjnabbmimgaaBulk
namespace Go.Proofs.Ytffpjnabbmimgaa.bitsPacks
open Go.ChangeShapes Go.WideShapes Go.ChangeAt Go.RowKit
set_option linter.unusedVariables false

theorem contract (H : Type) (enc : TypeId × Value → H) (W : World) (base : Nat) (args : Array Value) (ds gs : List (DataW H)) (before : List MemPlace)
    (hval0 : ∀ (j : Nat) t v, Try.f10.params[j]? = some t → args[j]? = some v → Value.okWide Try.prog W .any base t v)
    (hW : DataW.Whole enc Try.prog Try.f10.params.toList Rows.bitsPacksSpec.vars false W args.toList ds gs before) (hk : Rows.uptoSmall H (ds ++ gs) = true) :
    Calls Try.prog 10 args W fun e W' => ∃ v, e = .returned v ∧ Rows.bitsPacksSpec.post enc Try.prog Try.f10 false true false false W args v W' := by
  have hval : ∀ (j : Nat) t v, Try.f10.params[j]? = some t → args[j]? = some v → Value.okWide Try.prog W .any base t v := hval0
  have hW' := hW
  obtain ⟨p, q, hA0, hV, rfl, hfz, hnd⟩ := hW
  have hA : DataW.TrodAll enc Try.prog W 0 (fun _ => true) true Try.f10.params.toList args.toList ds p := hA0
  rw [Try.params10] at hA hval
  obtain ⟨v0, vs0, d0, ds0, p0, q0, hargs, rfl, rfl, h0, r0⟩ := trodAll_cons hA
  obtain ⟨v1, vs1, d1, ds1, p1, q1, rfl, rfl, rfl, h1, r1⟩ := trodAll_cons r0
  obtain ⟨rfl, rfl, rfl⟩ := trodAll_nil r1
  obtain rfl : args = #[v0, v1] := by cases args; simp_all
  obtain ⟨rfl, rfl⟩ := trodVars_none hV
  have k0 := h0
  have lt0 : ∀ x ∈ p0, x.block < W.heap.size := by obtain ⟨m, hm⟩ := k0; exact DataW.trod_lt m _ _ _ hm
  obtain ⟨a0, n0, c0, rfl⟩ := okWide_slice Try.underlying49 (hval 0 49 v0 rfl rfl)
  obtain ⟨xs0, hl0, hnc0, hcm0, hrd0, hwf0, hd0⟩ := rd_ints Try.underlying49 Try.underlying22 (by kernel_rfl) h0
  have hb0 : c0 ≤ 1048576 := by
    rcases hd0 with ⟨_, _, rfl⟩ | ⟨el, sp, rfl, hc⟩
    · omega
    · have hp := bulks.part_le (d := .slice el sp) (l := [.slice el sp, d1]) (by simp)
      have := bulks.slice_le el sp
      have := bulks.bound hk
      simp only [List.append_nil] at this
      omega
  have k1 := h1
  have lt1 : ∀ x ∈ p1, x.block < W.heap.size := by obtain ⟨m, hm⟩ := k1; exact DataW.trod_lt m _ _ _ hm
  obtain ⟨a1, n1, c1, rfl⟩ := okWide_slice Try.underlying39 (hval 1 39 v1 rfl rfl)
  obtain ⟨xs1, hl1, hnc1, hcm1, hrd1, hwf1, hd1⟩ := rd_ints Try.underlying39 Try.underlying5 (by kernel_rfl) h1
  have hb1 : c1 ≤ 1048576 := by
    rcases hd1 with ⟨_, _, rfl⟩ | ⟨el, sp, rfl, hc⟩
    · omega
    · have hp := bulks.part_le (d := .slice el sp) (l := [d0, .slice el sp]) (by simp)
      have := bulks.slice_le el sp
      have := bulks.bound hk
      simp only [List.append_nil] at this
      omega
  clear hA0
  simp only [List.append_nil] at hW'
  refine (w_packs (w := W) a0 n0 c0 xs0 hl0 hnc0 hb0 hrd0 hwf0 a1 n1 c1 xs1 hl1 hnc1 hb1 hrd1 hwf1).mono fun e W' ⟨he, bel⟩ => ?_
  subst he
  exact ⟨_, rfl, _, _, _, [], _, [], hW', trodAll_mk1 (shut_bool Try.underlying4 _), (trodAll_cons_mk (Below.trod laidOut (by kernel_rfl) (of_decide_eq_true (by kernel_rfl)) k0 bel lt0) (trodAll_cons_mk (Below.trod laidOut (by kernel_rfl) (of_decide_eq_true (by kernel_rfl)) k1 bel lt1) trodAll_mk0)), rfl, bel.frame _, fun h => by cases h⟩

set_option maxRecDepth 100000 in
theorem lifted (os : Os) (started : os.Started) (H : Type) (enc : TypeId × Value → H) (F : Stop.Interp) :
    ReturnsInHanded {} Try.checked os 10 .any ((Rows.OpenSpec.upto Rows.bitsPacksSpec).pre6 enc Try.prog Try.f10 Rows.bitsPacksUptoRow.domain false) (((Rows.OpenSpec.upto Rows.bitsPacksSpec).at F).post enc Try.prog Try.f10 false true false false) := by
  refine returnsInHanded_of_cond (C := Try.checked) (s := Rows.OpenSpec.upto Rows.bitsPacksSpec) (k := Rows.uptoSmall) rfl own started (by kernel_rfl) Try.func10
    (OpenSpec.witness (enc := enc) (C := Try.checked) (s := Rows.OpenSpec.upto Rows.bitsPacksSpec) (k := Rows.uptoSmall) rfl false ⟨#[], #[.slice none 0 0, .slice none 0 0], []⟩ 8 (by kernel_rfl) (by kernel_rfl) (by kernel_rfl)
      (x := ([.nil, .nil], [], [])) (by kernel_rfl) rfl (by kernel_rfl)) ?_
  intro W base args ds gs before hval hW _ hk _
  exact contract H enc W base args ds gs before hval hW hk

theorem over : Rows.bitsPacksUptoRow.holds Try.pinned (Rows.OpenSpec.upto Rows.bitsPacksSpec) :=
  OpenClaim.holds_of_cond 10 Try.f10 rfl rfl rfl rfl rfl rfl rfl ⟨rfl, rfl, rfl, rfl, rfl⟩ rfl rfl rfl rfl rfl (by kernel_rfl) Try.func10 (by kernel_rfl)
    (of_decide_eq_true (by kernel_rfl)) (by unfold Func.isWrapper; first | (rw [if_pos (by decide +kernel)]; kernel_rfl) | (rw [if_neg (by decide +kernel)]; exact ⟨rfl, rfl⟩))
    (fun os started H enc _ F => lifted os started H enc F)

theorem proved : Rows.BitsPacksUptoSaid := over
#print axioms proved
end Go.Proofs.Ytffpjnabbmimgaa.bitsPacks
