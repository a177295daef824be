/-
  The statement of CnfMeans: for every input the law returns true, and each argument reads behind the call as it did. Conditions: those of the given row; none of ours.
-/
import Derived.Test.YtbcabcdgblmnkaaOpen
import Derived.Test.YtbcabcdgblmnkaaCnMeans
import Derived.Test.YtbcabcdgblmnkaaOpenFm
namespace Go.Proofs.Ytbcabcdgblmnkaa.cnfMeans
open Go.ChangeShapes Go.WideShapes Go.ChangeAt Go.RowKit
set_option linter.unusedVariables false

set_option maxRecDepth 100000 in
theorem lifted (os : Os) (started : os.Started) (H : Type) (enc : TypeId × Value → H) :
    ReturnsInHanded {} Try.checked os 12 .any (Rows.cnfMeansSpec.pre6 enc Try.prog Try.f12 Rows.cnfMeansRow.domain false) (Rows.cnfMeansSpec.post enc Try.prog Try.f12 false true false false) := by
  refine returnsInHanded_of_change_sized (C := Try.checked) own started (by kernel_rfl) Try.func12
    (ChangeSpec.witness6 (enc := enc) (C := Try.checked) false ⟨#[], #[.agg #[.int .i64 0, .int .i64 0, .slice none 0 0], .slice none 0 0, .slice none 0 0], []⟩ 8 (by kernel_rfl) (by kernel_rfl) (by kernel_rfl) (by kernel_rfl)) ?_
  intro W base args ds gs before hval0 hW hcnd hsz0 _
  have hsz : (DataW.weightsEach Try.prog (Try.f12.params.toList ++ Rows.cnfMeansSpec.plain.varTypes Try.prog) (ds ++ gs)).all (· ≤ reachBytes) = true := hsz0
  clear hsz0
  have hval : ∀ (j : Nat) t v, Try.f12.params[j]? = some t → args[j]? = some v → Value.okWide Try.prog W .any base t v := hval0
  have hW' := hW
  obtain ⟨p, q, hA0, hV, rfl, hfz, hnd⟩ := hW
  have hA : DataW.TrodAll enc Try.prog W 0 (fun _ => true) true Try.f12.params.toList args.toList ds p := hA0
  rw [Try.params12] at hA hval hsz
  obtain ⟨v0, vs0, d0, ds0, p0, q0, hargs, rfl, rfl, h0, r0⟩ := trodAll_cons hA
  obtain ⟨v1, vs1, d1, ds1, p1, q1, rfl, rfl, rfl, h1, r1⟩ := trodAll_cons r0
  obtain ⟨v2, vs2, d2, ds2, p2, q2, rfl, rfl, rfl, h2, r2⟩ := trodAll_cons r1
  obtain ⟨rfl, rfl, rfl⟩ := trodAll_nil r2
  obtain rfl : args = #[v0, v1, v2] := by cases args; simp_all
  obtain ⟨rfl, rfl⟩ := trodVars_none hV
  have k0 := h0
  have lt0 : ∀ x ∈ p0, x.block < W.heap.size := by obtain ⟨m, hm⟩ := k0; exact DataW.trod_lt m _ _ _ hm
  obtain ⟨a0, b0, fs0, sv0, rfl, hfi0, wk0, wa0⟩ := open_fm (hval 0 58 v0 rfl rfl) h0
  have k1 := h1
  have lt1 : ∀ x ∈ p1, x.block < W.heap.size := by obtain ⟨m, hm⟩ := k1; exact DataW.trod_lt m _ _ _ hm
  obtain ⟨a1, n1, c1, rfl⟩ := okWide_slice Try.underlying23 (hval 1 23 v1 rfl rfl)
  obtain ⟨xs1, hl1, hnc1, hcm1, hrd1, hd1⟩ := rd_bools Try.underlying23 Try.underlying4 (by kernel_rfl) h1
  have hb1 : c1 * 1 ≤ 140737488351232 := by
    rcases hd1 with ⟨_, _, rfl⟩ | ⟨el, sp, rfl, hc⟩
    · omega
    · have hby : Try.prog.bytesOf 4 = 1 := by kernel_rfl
      have := sized_slice hsz (j := 1) (t := 23) (e := 4) rfl rfl Try.underlying23
      rw [hby] at this
      simp only [reachBytes] at this
      omega
  have k2 := h2
  have lt2 : ∀ x ∈ p2, x.block < W.heap.size := by obtain ⟨m, hm⟩ := k2; exact DataW.trod_lt m _ _ _ hm
  obtain ⟨a2, n2, c2, rfl⟩ := okWide_slice Try.underlying23 (hval 2 23 v2 rfl rfl)
  obtain ⟨xs2, hl2, hnc2, hcm2, hrd2, hd2⟩ := rd_bools Try.underlying23 Try.underlying4 (by kernel_rfl) h2
  have hb2 : c2 * 1 ≤ 140737488351232 := by
    rcases hd2 with ⟨_, _, rfl⟩ | ⟨el, sp, rfl, hc⟩
    · omega
    · have hby : Try.prog.bytesOf 4 = 1 := by kernel_rfl
      have := sized_slice hsz (j := 2) (t := 23) (e := 4) rfl rfl Try.underlying23
      rw [hby] at this
      simp only [reachBytes] at this
      omega
  clear hA0 hval0
  simp only [List.append_nil] at hW'
  refine (cmeans_law (w := W) a0 b0 fs0 sv0 hfi0 a1 n1 c1 xs1 hl1 hnc1 hb1 hrd1 a2 n2 c2 xs2 hl2 hnc2 hb2 hrd2).mono fun e W' ⟨he, bel⟩ => ?_
  subst he
  exact ⟨_, rfl, _, _, _, [], _, [], hW', trodAll_mk1 (shut_bool Try.underlying4 _), (trodAll_cons_mk (Below.trod laidOut (by kernel_rfl) (of_decide_eq_true (by kernel_rfl)) k0 bel lt0) (trodAll_cons_mk (Below.trod laidOut (by kernel_rfl) (of_decide_eq_true (by kernel_rfl)) k1 bel lt1) (trodAll_cons_mk (Below.trod laidOut (by kernel_rfl) (of_decide_eq_true (by kernel_rfl)) k2 bel lt2) trodAll_mk0))), rfl, bel.frame _, fun h => by cases h⟩

theorem over : Rows.cnfMeansRow.holds Try.pinned (OpenSpec.ofChange Rows.cnfMeansSpec) :=
  OpenClaim.holds_of_wide 12 Try.f12 rfl rfl rfl rfl rfl rfl rfl ⟨rfl, rfl, rfl, rfl, rfl⟩ rfl rfl rfl rfl rfl (by kernel_rfl) Try.func12 (by kernel_rfl)
    (of_decide_eq_true (by kernel_rfl)) (by unfold Func.isWrapper; first | (rw [if_pos (by decide +kernel)]; kernel_rfl) | (rw [if_neg (by decide +kernel)]; exact ⟨rfl, rfl⟩))
    (fun os started H enc _ => lifted os started H enc)

theorem proved : Rows.CnfMeansSaid := over
#print axioms proved
end Go.Proofs.Ytbcabcdgblmnkaa.cnfMeans
