/- Contract of package digits: Parse, at a text of digits. -/
import Derived.Test.YtlbbbafehhdpnaaDoorDigGrow
import Derived.Test.YtlbbbafehhdpnaaDoorDigMath
import Derived.Test.YtlbbbafehhdpnaaDoorLimbA
import Derived.Lib.OthersKept
import Derived.Deep.CutBlock
namespace Go.Proofs.YtlbbbafehhdpnaaDoor
open Go.RowKit
set_option linter.unusedVariables false
set_option linter.unusedSimpArgs false

/-- the text of a row of digits. -/
def txt (l : List Nat) : ByteArray := ⟨(l.map fun d => UInt8.ofNat (48 + d)).toArray⟩
theorem txt_size (l : List Nat) : (txt l).size = l.length := by
  show (l.map fun d => UInt8.ofNat (48 + d)).toArray.size = _
  simp
theorem txt_get (l : List Nat) (h : small10 l) (i : Nat) (hi : i < (txt l).size) : ((txt l)[i]'hi).toNat = 48 + l.getD i 0 := by
  have hi' : i < l.length := by rw [txt_size] at hi; exact hi
  show ((l.map fun d => UInt8.ofNat (48 + d)).toArray[i]'(by simpa using hi')).toNat = _
  have h1 := h l[i] (List.getElem_mem _)
  rw [List.getElem_toArray, List.getElem_map, List.getD_eq_getElem?_getD, List.getElem?_eq_getElem hi', UInt8.toNat_ofNat']
  show (48 + l[i]) % 2 ^ 8 = 48 + l[i]
  omega
theorem own_iter {w : World} {B : Nat} {e : TypeId} {size n : Nat} {v : Value} {xs : List Value} (h : w.ownsRow B e size v n xs) {g : Nat} {s : ByteArray} {p : Nat} (hg : w.heap[g]? = some (.stringIter s p)) : v.ownBlock ≠ some g := by
  rcases h.2 with ⟨rfl, _⟩ | ⟨g', cap, cur, rfl, _, hh, _⟩
  · simp [Value.ownBlock]
  · intro he
    have : g' = g := by simpa [Value.ownBlock] using he
    subst this
    rw [hh] at hg
    cases hg
theorem own_iterAt {w : World} {B : Nat} {e : TypeId} {size n : Nat} {v : Value} {xs : List Value} (h : w.ownsRow B e size v n xs) {g : Nat} {s : ByteArray} {p : Nat} (hg : w.heap[g]? = some (.stringIter s p)) (p' : Nat) : (w.iterAt g s p').ownsRow B e size v n xs := by
  have hne := own_iter h hg
  refine ⟨h.1, ?_⟩
  rcases h.2 with h' | ⟨g', cap, cur, hv, hb, hh, r⟩
  · exact .inl h'
  · refine .inr ⟨g', cap, cur, hv, hb, ?_, r⟩
    rw [Lib.iterAt_other w g g' s p' (fun e => hne (by rw [hv, e]; rfl))]
    exact hh
theorem getD_small10 {l : List Nat} (h : small10 l) (i : Nat) : l.getD i 0 < 10 := by
  rw [List.getD_eq_getElem?_getD]
  rcases Nat.lt_or_ge i l.length with hi | hi
  · rw [List.getElem?_eq_getElem hi]; exact h _ (List.getElem_mem _)
  · rw [List.getElem?_eq_none hi]; decide
def itPos (w : World) (k : Nat) : Nat := match w.heap[k]? with
  | some (.stringIter _ p) => p
  | _ => 0
theorem itPos_of {w : World} {k : Nat} {s : ByteArray} {p : Nat} (h : w.heap[k]? = some (.stringIter s p)) : itPos w k = p := by
  unfold itPos; rw [h]
theorem dv_take_succ (l : List Nat) (q : Nat) (h : q < l.length) : dv (l.take (q + 1)) = dv (l.take q) * 10 + l.getD q 0 := by
  rw [List.take_succ_eq_append_getElem h, dv_append, List.getD_eq_getElem?_getD, List.getElem?_eq_getElem h]
  simp [dv, dvA]

set_option maxRecDepth 100000 in
set_option maxHeartbeats 4000000 in
theorem parse_any (l : List Nat) (w : World) (hl : l ≠ []) (hn : l.length ≤ 20000) (hs : small10 l) :
    Calls Tryd.prog 19 #[.string (txt l)] w fun e w' => ∃ v, e = .returned (.tuple #[v, .int .i64 0]) ∧ w'.ownsRow w.heap.size 25 1 v (limbs (dv l)).length (lw (limbs (dv l))) ∧ Below w.heap.size w w' := by
  have hsz := txt_size l
  have hget := fun i hi => txt_get l hs i hi
  have hpos : 0 < l.length := List.length_pos_iff.2 hl
  obtain ⟨S, hS⟩ : ∃ S, txt l = S := ⟨_, rfl⟩
  rw [hS] at hsz hget ⊢
  obtain ⟨N, hN⟩ : ∃ N, l.length = N := ⟨_, rfl⟩
  rw [hN] at hsz hn hpos
  have hemp : S.toList.isEmpty = false := by
    rw [ByteArray.toList_eq]
    cases hd : S.data.toList with
    | nil =>
      exfalso
      have h0 : S.data.toList.length = N := by rw [Array.length_toList]; exact hsz
      rw [hd] at h0
      simp at h0
      omega
    | cons a r => rfl
  have h20 : ¬ ((20000 : Int) < (N : Int)) := by omega
  have HGET := Lib.hid hget
  have HS := Lib.hid hs
  have HN := Lib.hid hN
  clear hget hs hN hS hl
  go_enter Tryd.func19, Tryd.ntmps19
  go_upto_block 0 with fail
  have hit0 := World.iter_heap w S 0
  have hb0 : Below w.heap.size w (w.iter S 0) := (Below.refl _ _).alloc (Nat.le_refl _) _
  generalize w.iter S 0 = w1 at *
  have HIT0 := Lib.hid hit0
  have HB0 := Lib.hid hb0
  clear hit0 hb0
  go_wp2_with fail
  go_loopw [4] (fun a wr => ∃ (q : Nat) (L : List Nat), q ≤ N ∧ wr.ownsRow w.heap.size 25 1 a L.length (lw L) ∧ small L ∧ lv L = dv (l.take q) ∧ L.length ≤ q ∧ wr.heap[w.heap.size]? = some (.stringIter S q) ∧ Below w.heap.size w wr) (fun _ wr => N - itPos wr w.heap.size)
  case atStart => exact ⟨0, [], Nat.zero_le _, World.ownsRow_nil _ _ _ _, small_nil, rfl, Nat.le_refl _, HIT0.out, HB0.out⟩
  case round =>
    obtain ⟨q, L, hq, hown, hLs, hLv, hLl, hit, hb⟩ := hrel
    have hip := itPos_of hit
    by_cases hlt : q < N
    · have hqs : q < S.size := by omega
      have hg := HGET.out q hqs
      have hd := getD_small10 HS.out q
      have hdt := dv_take_succ l q (by rw [HN.out]; exact hlt)
      generalize l.getD q 0 = d at *
      have hnx : ∀ ty, (Instr.next (.pointer (some ⟨w.heap.size, 0, none⟩)) true ty).run Tryd.prog wr = .ok (.tuple #[.bool true, .int .i64 q, .int .i32 ((48 + d : Nat) : Int)]) (wr.iterAt w.heap.size S (q + 1)) := fun ty => by
        rw [Lib.run_next_ascii_at wr w.heap.size S q ty hit hqs (by rw [hg]; omega), hg]
      have hown2 := own_iterAt hown hit (q + 1)
      have hb2 := Lib.below_iterAt hb (Nat.le_refl _) S (q + 1)
      have hit2 := Lib.iterAt_heap wr w.heap.size S q (q + 1) hit
      generalize wr.iterAt w.heap.size S (q + 1) = w2 at *
      have hgr := grow_any w.heap.size _ L.length L 10 d w2 hown2 hb2.size hLs (by omega) (by decide) (by omega)
      rw [show ((10 : Nat) : Int) = 10 from rfl, show (d : Int) = 48 + (d : Int) - 48 by omega] at hgr
      have hnit := own_iter hown2 hit2
      have HGR := Lib.hid hgr
      have HIP := Lib.hid hip
      have HDT := Lib.hid hdt
      have HLV := Lib.hid hLv
      have HB2 := Lib.hid hb2
      have HIT2 := Lib.hid hit2
      have HNIT := Lib.hid hnit
      clear hgr hip hdt hLv hb2 hit2 hnit hown2 hown hb hit hg
      go_wp2_with (go_at_call 46; refine HGR.out.mono ?_; rintro e w3 ⟨v3, rfl, L3, ho3, hs3, hv3, hl3, hf3, hb3⟩)
      have hit3 := (hf3.block w.heap.size (lt_of_blk HIT2.out) HNIT.out).trans HIT2.out
      go_roundw
      case rel => exact ⟨q + 1, L3, by omega, ho3, hs3, by rw [hv3, HLV.out, HDT.out], by omega, hit3, HB2.out.trans hb3⟩
      case measure => rw [itPos_of hit3, HIP.out]; omega
    · obtain rfl : q = N := by omega
      have hend : ∀ ty, (Instr.next (.pointer (some ⟨w.heap.size, 0, none⟩)) true ty).run Tryd.prog wr = .ok (.tuple #[.bool false]) wr := fun ty => Lib.run_next_end_at wr w.heap.size S q ty hit (by omega)
      rw [List.take_of_length_le (Nat.le_of_eq HN.out)] at hLv
      obtain ⟨A, c, rfl, hc, hrd⟩ := ownsRow_form hown
      have hnm := norm_any L A L.length c wr rfl hc (by omega) hrd hLs
      rw [hLv] at hnm
      have HNM := Lib.hid hnm
      have HB := Lib.hid hb
      clear hnm hLv hrd hown hit hip hb
      go_wp2_with (go_at_call 39; refine HNM.out.mono ?_; rintro e w9 ⟨v9, rfl, ho9, hb9⟩)
      go_ret2
      exact ⟨_, rfl, own_more ho9 HB.out.size, HB.out.trans (hb9.mono HB.out.size)⟩
end Go.Proofs.YtlbbbafehhdpnaaDoor
