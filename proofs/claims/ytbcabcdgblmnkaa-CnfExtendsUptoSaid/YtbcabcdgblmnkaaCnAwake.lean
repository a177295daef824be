/- The Cnf laws: awake. -/
import Derived.Test.YtbcabcdgblmnkaaCnClau
namespace Go.Proofs.Ytbcabcdgblmnkaa
open Go.RowKit
set_option linter.unusedVariables false
set_option linter.unusedSimpArgs false

theorem FIn.blk {w : World} {g c : Nat} {cs : Array Value} {E : TypeId} {fs : List Fm} (ss : List Value) (hh : w.heap[g]? = some (.cells cs E (0, 0))) (hcs : cs.toList = fCells fs ss) (hs : ss.length = fs.length) (hnc : fs.length ≤ c) (hc : c ≤ maxLen)
    (hsub : ∀ (i : Nat) (f : Fm) (s : Value), fs[i]? = some f → ss[i]? = some s → FIn w f.sub s) : FIn w fs (.slice (some ⟨g, 0, none⟩) fs.length c) := by
  refine .mk _ _ c fs ss rfl hs hnc hc ⟨by rw [fCells_length _ _ hs], fun _ => ⟨g, 0, rfl, fun j u hu => ?_⟩⟩ hsub
  rw [Nat.zero_add, cell_of_blk hh, ← hu, ← hcs, Array.getElem?_toList]
theorem FIn.nil (w : World) : FIn w [] (.slice none 0 0) := (FOn.nil (fun _ => True) w).fin
theorem one_sub {w : World} {f : Fm} {s : Value} (h : FIn w f.sub s) : ∀ (i : Nat) (f' : Fm) (s' : Value), [f][i]? = some f' → [s][i]? = some s' → FIn w f'.sub s' := fun i f' s' hf hs => by
  cases i with
  | zero => simp at hf hs; subst hf hs; exact h
  | succ i => simp at hf
theorem two_sub {w : World} {f g : Fm} {s t : Value} (h : FIn w f.sub s) (h' : FIn w g.sub t) : ∀ (i : Nat) (f' : Fm) (s' : Value), [f, g][i]? = some f' → [s, t][i]? = some s' → FIn w f'.sub s' := fun i f' s' hf hs => by
  match i with
  | 0 => simp at hf hs; subst hf hs; exact h
  | 1 => simp at hf hs; subst hf hs; exact h'
  | i + 2 => simp at hf

theorem allocs4 (w : World) (o1 o2 o3 o4 : Obj) : ((((w.alloc o1).alloc o2).alloc o3).alloc o4).heap[w.heap.size]? = some o1 ∧ ((((w.alloc o1).alloc o2).alloc o3).alloc o4).heap[w.heap.size + 1]? = some o2 ∧
    ((((w.alloc o1).alloc o2).alloc o3).alloc o4).heap[w.heap.size + 1 + 1]? = some o3 ∧ ((((w.alloc o1).alloc o2).alloc o3).alloc o4).heap[w.heap.size + 1 + 1 + 1]? = some o4 ∧
    w.heap.size + 1 + 1 + 1 + 1 = ((((w.alloc o1).alloc o2).alloc o3).alloc o4).heap.size ∧ Below w.heap.size w ((((w.alloc o1).alloc o2).alloc o3).alloc o4) := by
  refine ⟨?_, ?_, ?_, cnew_at _ _ _ (by simp), by simp, ((((Below.refl _ _).alloc (Nat.le_refl _) _).alloc (by simp) _).alloc (by simp; omega) _).alloc (by simp; omega) _⟩
  · rw [alloc_old _ (by simp; omega), alloc_old _ (by simp; omega), alloc_old _ (by simp), heap_alloc_new]
  · rw [alloc_old _ (by simp), alloc_old _ (by simp), cnew_at _ _ _ (by simp)]
  · rw [alloc_old _ (by simp), cnew_at _ _ _ (by simp)]

def fmC : Fm := .mk 3 0 [.mk 1 0 [], .mk 2 0 [.mk 1 1 []]]
def nsC : List Nd := [⟨1, 0, 0⟩, ⟨2, 0, 0⟩, ⟨3, 0, 0⟩, ⟨3, 1, 0⟩, ⟨4, 3, 0⟩, ⟨5, 2, 4⟩]
theorem fmC_check : checkF fmC 2 = 0 := by
  rw [checkF_eq]
  simp [fmC, great, deepF, deepL, sizeF, sizeL, shapeF, shapeL]
theorem fmC_place : placeF fmC ns0 = (nsC, 5) := by
  first | rfl | decide | (simp [fmC, placeF, placeL, placeN, dAns, nsC, ns0]; rfl)
theorem fmC_parts : partsN nsC 5 = [5] := by first | rfl | decide
theorem fmC_raw : (rawN nsC 5).map canonI = [[-1, 2], [-1, -3], [1, -2, 3], [1]] := by
  unfold rawN
  rw [fmC_parts]
  first | rfl | decide
set_option maxRecDepth 100000 in
set_option maxHeartbeats 4000000 in
theorem awake18_any (w : World) : Calls Try.prog 34 #[] w fun e w' => e = .returned (.bool true) ∧ Below w.heap.size w w' := by
  obtain ⟨g0, g1, g2, g3, hsW, hbW⟩ := allocs4 w (.cells #[.int .i64 1, .int .i64 0, .slice none 0 0] 58) (.cells #[.int .i64 1, .int .i64 1, .slice none 0 0] 58) (.cells #[.int .i64 1, .int .i64 1, .slice none 0 0] 58) (.cells #[.int .i64 1, .int .i64 0, .slice none 0 0, .int .i64 2, .int .i64 0, .slice (some ⟨w.heap.size + 1 + 1, 0, none⟩) 1 1] 58)
  obtain ⟨W, hW⟩ : ∃ W, W = ((((w.alloc (.cells #[.int .i64 1, .int .i64 0, .slice none 0 0] 58)).alloc (.cells #[.int .i64 1, .int .i64 1, .slice none 0 0] 58)).alloc (.cells #[.int .i64 1, .int .i64 1, .slice none 0 0] 58)).alloc (.cells #[.int .i64 1, .int .i64 0, .slice none 0 0, .int .i64 2, .int .i64 0, .slice (some ⟨w.heap.size + 1 + 1, 0, none⟩) 1 1] 58)) := ⟨_, rfl⟩
  rw [← hW] at g0 g1 g2 g3 hbW hsW
  have f1 : FIn W [.mk 1 1 []] (.slice (some ⟨w.heap.size + 1 + 1, 0, none⟩) 1 1) := FIn.blk [.slice none 0 0] g2 rfl rfl (Nat.le_refl _) (by simp [maxLen]) (one_sub (FIn.nil W))
  have f2 : FIn W [.mk 1 0 [], .mk 2 0 [.mk 1 1 []]] (.slice (some ⟨w.heap.size + 1 + 1 + 1, 0, none⟩) 2 2) := FIn.blk [.slice none 0 0, _] g3 rfl rfl (Nat.le_refl _) (by simp [maxLen]) (two_sub (FIn.nil W) f1)
  have hcl := clausify_any f2 W 3 0 2 (by omega) (Below.refl _ _) fmC_check
  rw [show (Fm.mk 3 0 [.mk 1 0 [], .mk 2 0 [.mk 1 1 []]]) = fmC from rfl, fmC_place] at hcl
  simp only [fmC_parts, fmC_raw] at hcl
  rw [hW] at hcl
  have HB := Lib.hid hbW
  have HW := Lib.hid hW
  clear hbW hW g0 g1 g2 g3 hsW f1 f2
  go_enter Try.func34, Try.ntmps34
  go_upto_region 3 with (go_at_call 31; refine hcl.mono ?_; clear hcl; rintro e w5 ⟨v5, vs, rfl, hr5, hb5⟩; rw [← HW.out] at hb5; obtain ⟨A5, c5, rfl, _, _⟩ := ownsRow_form hr5.own)
  have hlen : vs.length = 4 := hr5.len
  have hb5' : Below w.heap.size w w5 := HB.out.trans (hb5.mono HB.out.size)
  obtain ⟨u, hu⟩ : ∃ u, vs[2]? = some u := ⟨_, List.getElem?_eq_getElem (by omega)⟩
  obtain ⟨Au, cu, rfl, hcu1, hcu2, hru⟩ := (hr5.rows 2 u [1, -2, 3] hu rfl).rd
  obtain ⟨b5, o5, u', rfl, hu', x0⟩ := (cown_rd hr5.own).at_ (show 2 < vs.length by omega)
  rw [hu] at hu'
  obtain rfl := Option.some.inj hu'
  have hb51 := World.block_lt_of_cell? _ _ x0
  rw [hlen]
  have hbx := heap_alloc_new w5 (.cells #[.int .i64 1, .slice (some ⟨b5, o5, none⟩) 4 c5] 60)
  have hx1 := (Below.refl w5.heap.size w5).alloc (Nat.le_refl _) (.cells #[.int .i64 1, .slice (some ⟨b5, o5, none⟩) 4 c5] 60)
  obtain ⟨W6, hW6⟩ : ∃ W, W = w5.alloc (.cells #[.int .i64 1, .slice (some ⟨b5, o5, none⟩) 4 c5] 60) := ⟨_, rfl⟩
  rw [← hW6] at hbx hx1 ⊢
  have z0 := cell_of_blk hbx 0
  have z1 := cell_of_blk hbx 1
  simp at z0 z1
  have x1 := (hx1.cell (p := ⟨b5, o5 + 2, none⟩) hb51).trans x0
  have hx2 := hx1.trans (((Below.refl W6.heap.size W6).alloc (Nat.le_refl _) (.cells #[.int .i64 1, .int .i64 (-2), .int .i64 3] 3)).mono hx1.size)
  have hsm := same_any [1, -2, 3] [1, -2, 3] Au (some ⟨W6.heap.size, 0, none⟩) 3 cu 3 3 _ rfl (by simp [maxLen]) (hru.below hx2) rfl (by simp [maxLen]) (rd_lit W6 #[.int .i64 1, .int .i64 (-2), .int .i64 3] 3)
  rw [decide_eq_true rfl] at hsm
  have HBF := Lib.hid (hb5'.trans (hx2.mono hb5'.size))
  clear hW6 hbx hx1 hx2 hru x0 hr5 hb5 hb5' hu hlen
  go_wp2_with (go_at_call 19; refine hsm.mono ?_; clear hsm; rintro e w7 ⟨rfl, q, rfl⟩)
  go_ret
  exact ⟨rfl, below_drewN HBF.out q⟩
end Go.Proofs.Ytbcabcdgblmnkaa
