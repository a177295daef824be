/- The laws' awake of formulas. -/
import Derived.Test.YtdpnififbpoagaaFmRef2
import Derived.Test.YtdpnififbpoagaaFmNnf3
namespace Go.Proofs.Ytdpnififbpoagaa
open Go.RowKit
set_option linter.unusedVariables false
set_option linter.unusedSimpArgs false

theorem lit_any (w : World) (a : Int) : Calls Try.prog 23 #[.int .i64 a] w fun e w' => e = .returned (.agg #[.int .i64 1, .int .i64 a, .slice none 0 0]) ∧ Below w.heap.size w w' := by
  go_enter Try.func23, Try.ntmps23
  go_wp2_with fail
  refine bodyPost_ret (v := .agg #[.int .i64 1, .int .i64 a, .slice none 0 0]) (by simp [results, Try.results23, go_sem]) rfl ?_
  exact ⟨rfl, ((Below.refl _ _).alloc (Nat.le_refl _) _)⟩
theorem FIn.blk {w : World} {g c : Nat} {cs : Array Value} {E : TypeId} {fs : List Fm} (ss : List Value) (hh : w.heap[g]? = some (.cells cs E (0, 0))) (hcs : cs.toList = fCells fs ss) (hs : ss.length = fs.length) (hnc : fs.length ≤ c) (hc : c ≤ maxLen)
    (hsub : ∀ (i : Nat) (f : Fm) (s : Value), fs[i]? = some f → ss[i]? = some s → FIn w f.sub s) : FIn w fs (.slice (some ⟨g, 0, none⟩) fs.length c) := by
  refine .mk _ _ c fs ss rfl hs hnc hc ⟨by rw [fCells_length _ _ hs], fun _ => ⟨g, 0, rfl, fun j u hu => ?_⟩⟩ hsub
  rw [Nat.zero_add, cell_of_blk hh, ← hu, ← hcs, Array.getElem?_toList]
theorem FIn.nil (w : World) : FIn w [] (.slice none 0 0) := (FOn.nil (fun _ => True) w).fin
theorem one_sub {w : World} {f : Fm} {s : Value} (h : FIn w f.sub s) : ∀ (i : Nat) (f' : Fm) (s' : Value), [f][i]? = some f' → [s][i]? = some s' → FIn w f'.sub s' := fun i f' s' hf hs => by
  cases i with
  | zero => simp at hf hs; subst hf hs; exact h
  | succ i => simp at hf
theorem two_sub {w : World} {f g : Fm} {s t : Value} (h : FIn w f.sub s) (h' : FIn w g.sub t) : ∀ (i : Nat) (f' : Fm) (s' : Value), [f, g][i]? = some f' → [s, t][i]? = some s' → FIn w f'.sub s' := fun i f' s' hf hs => by
  match i with
  | 0 => simp at hf hs; subst hf hs; exact h
  | 1 => simp at hf hs; subst hf hs; exact h'
  | i + 2 => simp at hf

theorem allocs4 (w : World) (o1 o2 o3 o4 : Obj) : ((((w.alloc o1).alloc o2).alloc o3).alloc o4).heap[w.heap.size]? = some o1 ∧ ((((w.alloc o1).alloc o2).alloc o3).alloc o4).heap[w.heap.size + 1]? = some o2 ∧
    ((((w.alloc o1).alloc o2).alloc o3).alloc o4).heap[w.heap.size + 1 + 1]? = some o3 ∧ ((((w.alloc o1).alloc o2).alloc o3).alloc o4).heap[w.heap.size + 1 + 1 + 1]? = some o4 ∧
    w.heap.size + 1 + 1 + 1 + 1 = ((((w.alloc o1).alloc o2).alloc o3).alloc o4).heap.size ∧ Below w.heap.size w ((((w.alloc o1).alloc o2).alloc o3).alloc o4) := by
  refine ⟨?_, ?_, ?_, new_at _ _ _ (by simp), by simp, ((((Below.refl _ _).alloc (Nat.le_refl _) _).alloc (by simp) _).alloc (by simp; omega) _).alloc (by simp; omega) _⟩
  · rw [alloc_old _ (by simp; omega), alloc_old _ (by simp; omega), alloc_old _ (by simp), heap_alloc_new]
  · rw [alloc_old _ (by simp), alloc_old _ (by simp), new_at _ _ _ (by simp)]
  · rw [alloc_old _ (by simp), new_at _ _ _ (by simp)]

def fmA : Fm := .mk 2 0 [.mk 3 0 [.mk 1 0 [], .mk 2 0 [.mk 1 1 []]]]
theorem fmA_check : checkF fmA 2 = 0 := by
  rw [checkF_eq]
  simp [fmA, great, deepF, deepL, sizeF, sizeL, shapeF, shapeL]
theorem fmA_eval : evalF fmA [true, false] = false := by simp [fmA, evalF, evalN, evalA]
theorem fmA_nnf : nnfF fmA false = .mk 4 0 [.mk 2 0 [.mk 1 0 []], .mk 1 1 []] := by simp [fmA, nnfF, nnfH, nnfL, turnK]
set_option maxRecDepth 100000 in
set_option maxHeartbeats 4000000 in
theorem fawake_any (w : World) : Calls Try.prog 25 #[] w fun e w' => e = .returned (.bool true) ∧ Below w.heap.size w w' := by
  have hl := lit_any
  have HL := Lib.hid hl
  clear hl
  go_enter Try.func25, Try.ntmps25
  go_upto_region 2 with (first | (go_at_call 23; refine (HL.out _ 0).mono ?_; rintro e w1 ⟨rfl, hb1⟩) | (go_at_call 23; refine (HL.out _ 1).mono ?_; rintro e w2 ⟨rfl, hb2⟩))
  have hbW0 : Below w.heap.size w w2 := hb1.trans (hb2.mono hb1.size)
  obtain ⟨g0, g1, g2, g3, hsW, hbW⟩ := allocs4 w2 (.cells #[.int .i64 1, .int .i64 1, .slice none 0 0] 48) (.cells #[.int .i64 1, .int .i64 0, .slice none 0 0, .int .i64 2, .int .i64 0, .slice (some ⟨w2.heap.size, 0, none⟩) 1 1] 48) (.cells #[.int .i64 3, .int .i64 0, .slice (some ⟨w2.heap.size + 1, 0, none⟩) 2 2] 48) (.cells #[.int .i64 2, .int .i64 0, .slice (some ⟨w2.heap.size + 1 + 1, 0, none⟩) 1 1] 48)
  have hbW := hbW0.trans (hbW.mono hbW0.size)
  obtain ⟨W, hW⟩ : ∃ W, W = ((((w2.alloc (.cells #[.int .i64 1, .int .i64 1, .slice none 0 0] 48)).alloc (.cells #[.int .i64 1, .int .i64 0, .slice none 0 0, .int .i64 2, .int .i64 0, .slice (some ⟨w2.heap.size, 0, none⟩) 1 1] 48)).alloc (.cells #[.int .i64 3, .int .i64 0, .slice (some ⟨w2.heap.size + 1, 0, none⟩) 2 2] 48)).alloc (.cells #[.int .i64 2, .int .i64 0, .slice (some ⟨w2.heap.size + 1 + 1, 0, none⟩) 1 1] 48)) := ⟨_, rfl⟩
  rw [← hW] at g0 g1 g2 g3 hbW hsW ⊢
  clear hW hb1 hb2
  have f1 : FIn W [.mk 1 1 []] (.slice (some ⟨w2.heap.size, 0, none⟩) 1 1) := FIn.blk [.slice none 0 0] g0 rfl rfl (Nat.le_refl _) (by simp [maxLen]) (one_sub (FIn.nil W))
  have f2 : FIn W [.mk 1 0 [], .mk 2 0 [.mk 1 1 []]] (.slice (some ⟨w2.heap.size + 1, 0, none⟩) 2 2) := FIn.blk [.slice none 0 0, _] g1 rfl rfl (Nat.le_refl _) (by simp [maxLen]) (two_sub (FIn.nil W) f1)
  have f3 : FIn W [.mk 3 0 [.mk 1 0 [], .mk 2 0 [.mk 1 1 []]]] (.slice (some ⟨w2.heap.size + 1 + 1, 0, none⟩) 1 1) := FIn.blk [_] g2 rfl rfl (Nat.le_refl _) (by simp [maxLen]) (one_sub f2)
  have y0 := cell_of_blk g3 0
  have y1 := cell_of_blk g3 1
  have y2 := cell_of_blk g3 2
  simp at y0 y1 y2
  have bW1 : Below W.heap.size W (W.alloc (.cells #[.bool true, .bool false] 4)) := (Below.refl _ _).alloc (Nat.le_refl _) _
  have h2 := leval_any (f3.at_ bW1) [true, false] (some ⟨W.heap.size, 0, none⟩) 2 2 rfl (rd_lit W #[.bool true, .bool false] 4) _ 2 0 (Below.refl _ _)
  rw [show checkF (.mk 2 0 [.mk 3 0 [.mk 1 0 [], .mk 2 0 [.mk 1 1 []]]]) ((2 : Nat) : Int) = 0 from fmA_check, if_pos rfl, show evalF (.mk 2 0 [.mk 3 0 [.mk 1 0 [], .mk 2 0 [.mk 1 1 []]]]) [true, false] = false from fmA_eval] at h2
  have h3 := fun W' hW' => lnnf_any f3 W' 2 0 2 hW'
  rw [show checkF (.mk 2 0 [.mk 3 0 [.mk 1 0 [], .mk 2 0 [.mk 1 1 []]]]) 2 = 0 from fmA_check, if_pos rfl, show nnfF (.mk 2 0 [.mk 3 0 [.mk 1 0 [], .mk 2 0 [.mk 1 1 []]]]) false = .mk 4 0 [.mk 2 0 [.mk 1 0 []], .mk 1 1 []] from fmA_nnf] at h3
  have H3 := Lib.hid h3
  have BW := Lib.hid hbW
  have BW1 := Lib.hid bW1
  have G3 := Lib.hid g3
  clear g0 g1 g2 g3 f1 f2 f3 h3 hbW bW1 HL
  go_upto_region 4 with (first | (go_at_call 24; refine h2.mono ?_; rintro e w3 ⟨rfl, hb3⟩; have hb3' := BW1.out.trans (hb3.mono BW1.out.size); have g5 := (hb3'.block (w2.heap.size + 1 + 1 + 1) (by omega)).trans G3.out; have z0 := cell_of_blk g5 0; have z1 := cell_of_blk g5 1; have z2 := cell_of_blk g5 2; simp at z0 z1 z2; clear h2 g5 hb3; have HB3 := Lib.hid hb3'; clear hb3') | (go_at_call 28; refine (H3.out _ HB3.out).mono ?_; rintro e w4 ⟨v4, rfl, ⟨sv4, rfl, hfo⟩, hb4⟩; have hfi := hfo.fin; simp only [Fm.k, Fm.a, Fm.sub] at hfi ⊢; obtain ⟨A4, c4, rfl, _, _⟩ := hfi.form; have HFI := Lib.hid hfi; have HB4 := Lib.hid (HB3.out.trans (hb4.mono HB3.out.size)); clear hfo hb4 hfi))
  have bw5 := BW.out.trans (HB4.out.mono BW.out.size)
  have bw6 := bw5.alloc bw5.size (.cells #[.int .i64 4, .int .i64 0, .slice A4 2 c4] 48)
  have fi6 := HFI.out.at_ ((Below.refl w4.heap.size w4).alloc (Nat.le_refl _) (.cells #[.int .i64 4, .int .i64 0, .slice A4 2 c4] 48))
  have g6 := heap_alloc_new w4 (.cells #[.int .i64 4, .int .i64 0, .slice A4 2 c4] 48)
  obtain ⟨W6, hW6⟩ : ∃ W, W = w4.alloc (.cells #[.int .i64 4, .int .i64 0, .slice A4 2 c4] 48) := ⟨_, rfl⟩
  rw [← hW6] at bw6 fi6 g6 ⊢
  clear hW6 y0 y1 y2 z0 z1 z2
  have q0 := cell_of_blk g6 0
  have q1 := cell_of_blk g6 1
  have q2 := cell_of_blk g6 2
  simp at q0 q1 q2
  cases fi6 with
  | mk A n c fs ss hl hs hnc hc hr hsub =>
    obtain ⟨b, off, e, x0, x1, x2, _⟩ := hr.f3 1 (by decide) (f := .mk 1 1 []) (s := ss[1]'(by rw [hs]; decide)) rfl (List.getElem?_eq_getElem _)
    subst e
    simp only [Nat.one_mul, Fm.k] at x0
    clear x1 x2 hr hsub hl hs hnc hc g6
    go_wp2_with fail
    go_ret
    exact ⟨rfl, bw6⟩
end Go.Proofs.Ytdpnififbpoagaa
