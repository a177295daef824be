/- clause.KeyOf. -/
import Derived.Test.YtbcabcdgblmnkaaClLaw1
import Derived.Test.YtbcabcdgblmnkaaBitsPk
import Derived.Test.YtbcabcdgblmnkaaBitsA
import Derived.Laws.CopyOwn
import Derived.Laws.IdiomStrings
namespace Go.Proofs.Ytbcabcdgblmnkaa
open Go.RowKit
set_option linter.unusedVariables false
set_option linter.unusedSimpArgs false

/-- a key, by its parts. -/
structure K8 where
  n : Int
  a : Int
  b : Int
  c : Int
  d : Int
  e : Int
  f : Int
  s : ByteArray
deriving DecidableEq
def K8.val (k : K8) : Value := .agg #[.int .i64 k.n, .int .i64 k.a, .int .i64 k.b, .int .i64 k.c, .int .i64 k.d, .int .i64 k.e, .int .i64 k.f, .string k.s]
def strOf (xs : List Int) : ByteArray := ⟨(xs.map fun x => UInt8.ofNat x.toNat).toArray⟩
def zigN (l : Int) : Nat := (zig l).toNat
def keyC (x : List Int) : K8 := ⟨x.length, x.getD 0 0, x.getD 1 0, x.getD 2 0, x.getD 3 0, x.getD 4 0, x.getD 5 0, strOf (packs ((x.drop 6).map zigN))⟩
def key0 : K8 := ⟨0, 0, 0, 0, 0, 0, 0, ⟨#[]⟩⟩

theorem run_str {P : Program} {w : World} {A : Option Addr} {n c : Nat} {xs : List Int} (src dst e : TypeId) (hs : P.underlying src = some (.slice e)) (he : P.underlying e = some (.int .u8)) (hd : P.underlying dst = some .string)
    (hl : xs.length = n) (hr : Rd w 1 A n (bytes8 xs)) (hb : ∀ x ∈ xs, 0 ≤ x ∧ x ≤ 255) : (convert src dst (.slice A n c)).run P w = .ok (.string (strOf xs)) w := by
  rcases Nat.eq_zero_or_pos n with h0 | h0
  · subst h0
    obtain rfl : xs = [] := List.eq_nil_of_length_eq_zero hl
    cases A with
    | none => rw [run_convert_bytes_string w src dst e none 0 c hs he hd]; rfl
    | some a => exact run_convert_bytes_back w src dst e a c [] hs he hd (fun j hj => by simp at hj)
  · obtain ⟨b, off, rfl, hc⟩ := hr.2 h0
    have h1 := run_convert_bytes_back (P := P) w src dst e ⟨b, off, none⟩ c (xs.map fun x => UInt8.ofNat x.toNat) hs he hd (fun j hj => by
      have hj' : j < xs.length := by simpa using hj
      have hm := hb xs[j] (List.getElem_mem _)
      rw [addr_add_none, hc j _ (bytes8_get xs j hj')]
      simp only [List.getElem_map]
      congr 2
      rw [UInt8.toNat_ofNat']
      omega)
    rw [List.length_map, hl] at h1
    exact h1
theorem vint_bytes (u : Nat) : ∀ x ∈ vint u, 0 ≤ x ∧ x ≤ 255 := by
  induction u using Nat.strongRecOn with
  | ind u ih =>
    intro x hx
    by_cases h : u < 128
    · rw [vint_small u h] at hx
      simp at hx
      omega
    · rw [vint_big u (by omega)] at hx
      rcases List.mem_cons.1 hx with e | e
      · omega
      · exact ih (u / 128) (by omega) x e
theorem packs_bytes (us : List Nat) : ∀ x ∈ packs us, 0 ≤ x ∧ x ≤ 255 := by
  intro x hx
  obtain ⟨u, _, hu⟩ := List.mem_flatMap.1 hx
  exact vint_bytes u x hu

theorem zigN_eq (l : Int) (h : IsI64 l) : zig l = ((zigN l : Nat) : Int) ∧ zigN l < 18446744073709551616 := by
  have := zig_range l h.1 h.2
  unfold zigN
  omega
theorem rd_drop {w : World} {b off n k : Nat} {xs : List Value} (h : Rd w 1 (some ⟨b, off, none⟩) n xs) (hk : k ≤ n) : Rd w 1 (some ⟨b, off + k, none⟩) (n - k) (xs.drop k) := by
  refine ⟨by rw [List.length_drop, h.1]; omega, fun h0 => ⟨b, off + k, rfl, fun j u hu => ?_⟩⟩
  obtain ⟨b', off', e, hc⟩ := h.2 (by omega)
  injection e with e
  injection e with e1 e2
  subst e1 e2
  rw [List.getElem?_drop] at hu
  rw [Nat.add_assoc]
  exact hc _ u hu

theorem fr_set8 (w : World) (X : Nat) (v0 v1 v2 v3 v4 v5 v6 v7 : Value) : Fr (fun x => x = X) w ((((((((w.setCell ⟨X, 0, none⟩ v0).setCell ⟨X, 1, none⟩ v1).setCell ⟨X, 2, none⟩ v2).setCell ⟨X, 3, none⟩ v3).setCell ⟨X, 4, none⟩ v4).setCell ⟨X, 5, none⟩ v5).setCell ⟨X, 6, none⟩ v6).setCell ⟨X, 7, none⟩ v7) :=
  ((((((((Fr.refl (fun x => x = X) w).setCell ⟨X, 0, none⟩ v0 (.inl rfl)).setCell ⟨X, 1, none⟩ v1 (.inl rfl)).setCell ⟨X, 2, none⟩ v2 (.inl rfl)).setCell ⟨X, 3, none⟩ v3 (.inl rfl)).setCell ⟨X, 4, none⟩ v4 (.inl rfl)).setCell ⟨X, 5, none⟩ v5 (.inl rfl)).setCell ⟨X, 6, none⟩ v6 (.inl rfl)).setCell ⟨X, 7, none⟩ v7 (.inl rfl)
/-- the cells of a block of eight, to be read and written. -/
theorem box8 {w : World} {g : Nat} {v0 v1 v2 v3 v4 v5 v6 v7 : Value} {t : TypeId} (h : w.heap[g]? = some (.cells #[v0, v1, v2, v3, v4, v5, v6, v7] t (0, 0))) :
    w.cell? ⟨g, 0, none⟩ = some v0 ∧ w.cell? ⟨g, 1, none⟩ = some v1 ∧ w.cell? ⟨g, 2, none⟩ = some v2 ∧ w.cell? ⟨g, 3, none⟩ = some v3 ∧ w.cell? ⟨g, 4, none⟩ = some v4 ∧ w.cell? ⟨g, 5, none⟩ = some v5 ∧ w.cell? ⟨g, 6, none⟩ = some v6 ∧ w.cell? ⟨g, 7, none⟩ = some v7 :=
  ⟨cell_of_blk h 0, cell_of_blk h 1, cell_of_blk h 2, cell_of_blk h 3, cell_of_blk h 4, cell_of_blk h 5, cell_of_blk h 6, cell_of_blk h 7⟩
theorem froz8 {w : World} {g : Nat} {cs : Array Value} {t : TypeId} (h : w.heap[g]? = some (.cells cs t (0, 0))) :
    w.frozen? ⟨g, 0, none⟩ = false ∧ w.frozen? ⟨g, 1, none⟩ = false ∧ w.frozen? ⟨g, 2, none⟩ = false ∧ w.frozen? ⟨g, 3, none⟩ = false ∧ w.frozen? ⟨g, 4, none⟩ = false ∧ w.frozen? ⟨g, 5, none⟩ = false ∧ w.frozen? ⟨g, 6, none⟩ = false ∧ w.frozen? ⟨g, 7, none⟩ = false :=
  ⟨frozen_of_blk h 0, frozen_of_blk h 1, frozen_of_blk h 2, frozen_of_blk h 3, frozen_of_blk h 4, frozen_of_blk h 5, frozen_of_blk h 6, frozen_of_blk h 7⟩
def headL (x : List Int) : List Value := [.int .i64 x.length, .int .i64 (x.getD 0 0), .int .i64 (x.getD 1 0), .int .i64 (x.getD 2 0), .int .i64 (x.getD 3 0), .int .i64 (x.getD 4 0), .int .i64 (x.getD 5 0), .string ⟨#[]⟩]
theorem splice_head (x : List Int) : splice [Value.int .i64 x.length, .int .i64 0, .int .i64 0, .int .i64 0, .int .i64 0, .int .i64 0, .int .i64 0, .string ⟨#[]⟩] 1 (ints (x.take 6)) = headL x := by
  match x with
  | [] => rfl
  | [a] => rfl
  | [a, b] => rfl
  | [a, b, c] => rfl
  | [a, b, c, d] => rfl
  | [a, b, c, d, e] => rfl
  | a :: b :: c :: d :: e :: f :: r => simp [splice, ints, headL]

set_option maxRecDepth 100000 in
set_option maxHeartbeats 8000000 in
theorem keyOf_any (xs : List Int) (A : Option Addr) (n c : Nat) (w : World) (hl : xs.length = n) (hnc : n ≤ c) (hn : n ≤ 1000000) (hr : Rd w 1 A n (ints xs)) (hw : ∀ l ∈ xs, IsI64 l) :
    Calls Try.prog 27 #[.slice A n c] w fun e w' => e = .returned (.tuple #[(if goodB xs = true then keyC (canonI xs) else key0).val, .int .i64 (if goodB xs = true then 0 else 4)]) ∧ Below w.heap.size w w' := by
  obtain ⟨i0, hi, hz0, hz1, hz2⟩ := info_parts info_u64
  have h1 := fun W hr' => canon_any xs A n c W hl hnc hn hr' hw
  have hcl : goodB xs = true → ∀ l ∈ canonI xs, IsLit l := fun h => canon_lits (good_lit h hw)
  have hlen := canonI_len xs
  generalize canonI xs = cx at *
  generalize goodB xs = gx at *
  have hb0 : Below w.heap.size w (w.alloc (.cells #[.int .i64 0, .int .i64 0, .int .i64 0, .int .i64 0, .int .i64 0, .int .i64 0, .int .i64 0, .string ⟨#[]⟩] 47)) := (Below.refl _ _).alloc (Nat.le_refl _) _
  have hbx := heap_alloc_new w (.cells #[.int .i64 0, .int .i64 0, .int .i64 0, .int .i64 0, .int .i64 0, .int .i64 0, .int .i64 0, .string ⟨#[]⟩] 47)
  have h2 := h1 _ (hr.below hb0)
  obtain ⟨W0, hW0⟩ : ∃ W, W = w.alloc (.cells #[.int .i64 0, .int .i64 0, .int .i64 0, .int .i64 0, .int .i64 0, .int .i64 0, .int .i64 0, .string ⟨#[]⟩] 47) := ⟨_, rfl⟩
  rw [← hW0] at h2 hb0 hbx
  have hlt0 := lt_of_blk hbx
  have HBX := Lib.hid hbx
  have HB0 := Lib.hid hb0
  clear h1 hr hbx hb0
  cases gx with
  | false =>
    rw [if_neg (by simp)] at h2
    rw [if_neg (by simp), if_neg (by simp)]
    clear hcl
    go_enter Try.func27, Try.ntmps27
    go_upto_region 1 with fail
    rw [← hW0]
    clear hW0
    go_upto_region 3 with (go_at_call 21; refine h2.mono ?_; rintro e w1 ⟨v1, rfl, ho1, hb1⟩)
    have hz := (hb1.block _ hlt0).trans HBX.out
    have HBN := Lib.hid (bstepC HB0.out hb1)
    clear ho1 hb1 h2
    obtain ⟨z0, z1, z2, z3, z4, z5, z6, z7⟩ := box8 hz
    obtain ⟨p0, p1, p2, p3, p4, p5, p6, p7⟩ := froz8 hz
    go_wp2_with fail
    refine bodyPost_ret (v := .tuple #[key0.val, .int .i64 4]) (by simp [results, Try.results27, go_sem, z0, z1, z2, z3, z4, z5, z6, z7, key0, K8.val, ByteArray.empty]) rfl ?_
    have hf := fr_set8 w1 w.heap.size (.int .i64 0) (.int .i64 0) (.int .i64 0) (.int .i64 0) (.int .i64 0) (.int .i64 0) (.int .i64 0) (.string ⟨#[]⟩)
    exact ⟨rfl, HBN.out.trans (hf.below HBN.out.size (fun b e => by omega))⟩
  | true =>
    rw [if_pos rfl] at h2
    rw [if_pos rfl, if_pos rfl]
    have hlit := hcl rfl
    clear hcl
    go_enter Try.func27, Try.ntmps27
    go_upto_region 1 with fail
    rw [← hW0]
    clear hW0
    go_upto_region 5 with (go_at_call 21; refine h2.mono ?_; rintro e w1 ⟨v1, rfl, ho1, hb1⟩; rw [if_pos rfl] at ho1; obtain ⟨A1, c1, rfl, hn1, hc1, hr1⟩ := ho1.rd; have HR1 := Lib.hid hr1; clear hr1 ho1)
    have hz := (hb1.block _ hlt0).trans HBX.out
    have HB1 := Lib.hid (bstepC HB0.out hb1)
    have hlt1 := lt_of_blk hz
    have hb2 := (Below.refl w1.heap.size w1).alloc (Nat.le_refl _) (.cells #[.int .i64 cx.length, .int .i64 0, .int .i64 0, .int .i64 0, .int .i64 0, .int .i64 0, .int .i64 0, .string ⟨#[]⟩] 47)
    have hg := heap_alloc_new w1 (.cells #[.int .i64 cx.length, .int .i64 0, .int .i64 0, .int .i64 0, .int .i64 0, .int .i64 0, .int .i64 0, .string ⟨#[]⟩] 47)
    obtain ⟨W2, hW2⟩ : ∃ W, W = w1.alloc (.cells #[.int .i64 cx.length, .int .i64 0, .int .i64 0, .int .i64 0, .int .i64 0, .int .i64 0, .int .i64 0, .string ⟨#[]⟩] 47) := ⟨_, rfl⟩
    rw [← hW2] at hb2 hg ⊢
    clear hW2 h2 hb1
    have hz2' := (hb2.block _ hlt1).trans hz
    have hr2 := HR1.out.below hb2
    have hlt2 := hb2.size
    have hcs : (ints (cx.take 6)).length = Nat.min cx.length 6 := by simp [ints, Nat.min_comm]
    have hpos : 0 < (ints (cx.take 6)).length → (some (⟨w1.heap.size, 1, none⟩ : Addr)) = some ⟨w1.heap.size, 1, none⟩ ∧ ∃ ad, A1 = some ad ∧ ∀ j v, (ints (cx.take 6))[j]? = some v → W2.cell? (ad.add j) = some v := fun h0 => by
      refine ⟨rfl, ?_⟩
      obtain ⟨b, off, rfl, hc⟩ := hr2.2 (by rw [hcs] at h0; have : Nat.min cx.length 6 ≤ cx.length := Nat.min_le_left _ _; omega)
      refine ⟨_, rfl, fun j v hj => ?_⟩
      rw [addr_add_none]
      refine hc j v ?_
      unfold ints at hj ⊢
      rw [List.map_take, List.getElem?_take] at hj
      split at hj
      · exact hj
      · cases hj
    have hspl := splice_head cx
    have h1c := ints_one (cx.take 6)
    have hfit : 1 + (ints (cx.take 6)).length ≤ [Value.int .i64 cx.length, .int .i64 0, .int .i64 0, .int .i64 0, .int .i64 0, .int .i64 0, .int .i64 0, .string ⟨#[]⟩].length := by rw [hcs]; have : Nat.min cx.length 6 ≤ 6 := Nat.min_le_right _ _; simp; omega
    obtain ⟨X1, hX1⟩ : ∃ X, X = ints (cx.take 6) := ⟨_, rfl⟩
    rw [← hX1] at hcs hpos hspl h1c hfit
    have hm1 : Nat.min cx.length 6 ≤ 6 := Nat.min_le_right _ _
    have hm2 : Nat.min cx.length 6 ≤ cx.length := Nat.min_le_left _ _
    have hdr : cx.drop (Nat.min cx.length 6) = cx.drop 6 := by
      by_cases h : cx.length ≤ 6
      · rw [show Nat.min cx.length 6 = cx.length from Nat.min_eq_left h, List.drop_of_length_le (Nat.le_refl _), List.drop_of_length_le h]
      · rw [show Nat.min cx.length 6 = 6 from Nat.min_eq_right (by omega)]
    obtain ⟨m, hm⟩ : ∃ m, m = Nat.min cx.length 6 := ⟨_, rfl⟩
    have HNM := Lib.hid (show Nat.min cx.length 6 = m from hm.symm)
    rw [← hm] at hcs hm1 hm2 hdr
    unfold maxLen at hc1
    have HSPL := Lib.hid hspl
    have HCS := Lib.hid hcs
    have HLIT := Lib.hid hlit
    have HDR := Lib.hid hdr
    clear hX1 hspl hlit hm hdr
    obtain ⟨q, hq⟩ : ∃ q, q = cx.length - m := ⟨_, rfl⟩
    have hrd3 : ∀ W, Below w1.heap.size W2 W → Rd W 1 (A1.map fun x => x.add m) q (ints (cx.drop m)) := fun W hb => by
      have hrW := HR1.out.below (hb2.trans hb)
      rcases Nat.eq_zero_or_pos q with h0 | h0
      · subst h0
        refine ⟨?_, fun h => absurd h (Nat.lt_irrefl 0)⟩
        rw [ints_length, List.length_drop]
        omega
      · obtain ⟨b, off, rfl, _⟩ := hrW.2 (by omega)
        have h := rd_drop hrW hm2
        rw [← hq] at h
        unfold ints at h ⊢
        rw [List.map_drop, Option.map_some, addr_add_none]
        exact h
    have HRD3 := Lib.hid hrd3
    have HB2 := Lib.hid hb2
    clear hrd3 hb2
    have hX0 : q = 0 → ∀ W, Rd W 1 A1 q (ints (cx.drop m)) := fun h0 W => by
      subst h0
      refine ⟨?_, fun h => absurd h (Nat.lt_irrefl 0)⟩
      rw [ints_length, List.length_drop]
      omega
    have HX0 := Lib.hid hX0
    clear hX0
    have HQ := Lib.hid (show (cx.drop m).length = q by rw [List.length_drop]; omega)
    have hqm : q ≤ 1000000 := by omega
    by_cases hcm : c1 = m
    · have hlm : cx.length = m := by omega
      subst hcm
      obtain rfl : q = 0 := by omega
      clear hq hlm hcs
      go_wp2_with (refine wpList_copy_splice rfl (.tmp 24) (.tmp 25) 22 22 rfl 3 Try.underlying22 (by kernel_rfl) (some ⟨w1.heap.size, 1, none⟩) A1 6 6 cx.length c1 rfl rfl w1.heap.size 1 _ 47 hg X1 (HCS.out.trans HNM.out.symm) hpos hfit h1c w1.heap.size W2 (Below.refl _ _) (Nat.le_refl _) ?_; intro w3 hg3 hb3; rw [HCS.out])
      have HRD := Lib.hid (HX0.out (by simp) w3)
      have hgc := hg3.out
      rw [HSPL.out] at hgc
      have hzc := (hb3.block _ hlt1).trans hz2'
      have hltg := lt_of_blk hgc
      have hltz := lt_of_blk hzc
      have HB13 := Lib.hid (Below.trans (HB1.out) ((HB2.out.trans hb3).mono HB1.out.size))
      have HGC := Lib.hid hgc
      have HZC := Lib.hid hzc
      clear hg3 hb3 hpos h1c hfit hgc hzc hg hz hz2' hr2
      go_loopw [8, 31] (fun y x wr => ∃ (i : Nat), i ≤ 0 ∧ x = .int .i64 i ∧ wr.ownsRow w3.heap.size 52 1 y i (words (((cx.drop c1).map zigN).take i)) ∧ Below w3.heap.size w3 wr) (fun _ x _ => 0 - (intOf x).toNat)
      case atStart => exact ⟨0, Nat.zero_le _, rfl, World.ownsRow_nil _ _ _ _, Below.refl _ _⟩
      case round =>
        obtain ⟨i, hi', rfl, hown, hbk⟩ := hrel
        by_cases hlt : i < 0
        ·
          exact absurd hlt (Nat.not_lt_zero _)
        · obtain rfl : 0 = i := by omega
          rw [List.take_of_length_le (Nat.le_of_eq (by rw [List.length_map, HQ.out]))] at hown
          obtain ⟨A5, c5, rfl, _, hr5⟩ := ownsRow_form hown
          have hpk := pack_any ((cx.drop c1).map zigN) A5 0 c5 wr (by rw [List.length_map, HQ.out]) (by omega) hr5 (fun u hu => by
            obtain ⟨l, hl', rfl⟩ := List.mem_map.1 hu
            have := HLIT.out l (List.mem_of_mem_drop hl')
            exact (zigN_eq l ⟨by have := this.2.1; omega, this.2.2⟩).2)
          have hpb := packs_bytes ((cx.drop c1).map zigN)
          have hS : (keyC cx).s = strOf (packs ((cx.drop c1).map zigN)) := by unfold keyC; rw [HDR.out]
          generalize packs ((cx.drop c1).map zigN) = PK at *
          have HB5 := Lib.hid hbk
          clear hown hr5 hbk
          go_upto_region 13 with (go_at_call 50; refine hpk.mono ?_; rintro e w7 ⟨v7, rfl, ho7, hb7⟩; obtain ⟨A7, c7, rfl, _, hr7⟩ := ownsRow_form ho7; have hcv := run_str (P := Try.prog) (c := c7) 50 9 5 Try.underlying50 Try.underlying5 Try.underlying9 rfl hr7 hpb; have hb37 := bstepC HB5.out hb7; have hg7 := (hb37.block _ hltg).trans HGC.out; have hz7 := (hb37.block _ hltz).trans HZC.out; obtain ⟨z0, z1, z2, z3, z4, z5, z6, z7⟩ := box8 hg7; obtain ⟨p0, p1, p2, p3, p4, p5, p6, p7⟩ := froz8 hg7; clear ho7 hr7 hpk)
          have hg8 := set_blk hg7 7 (.string (strOf PK))
          have hf8 := (Fr.refl (fun x => x = w1.heap.size) w7).setCell ⟨w1.heap.size, 7, none⟩ (.string (strOf PK)) (.inl rfl)
          have hz8 := (hf8.block w.heap.size (lt_of_blk hz7) (by omega)).trans hz7
          have hb8 := (HB13.out.trans (hb37.mono HB13.out.size)).trans (hf8.below (Nat.le_of_lt (lt_of_blk hz7)) (fun b e => by omega))
          obtain ⟨W8, hW8⟩ : ∃ W, W = w7.setCell ⟨w1.heap.size, 7, none⟩ (.string (strOf PK)) := ⟨_, rfl⟩
          rw [← hW8] at hg8 hz8 hb8 ⊢
          have hg9 : W8.heap[w1.heap.size]? = some (.cells #[.int .i64 cx.length, .int .i64 (cx.getD 0 0), .int .i64 (cx.getD 1 0), .int .i64 (cx.getD 2 0), .int .i64 (cx.getD 3 0), .int .i64 (cx.getD 4 0), .int .i64 (cx.getD 5 0), .string (strOf PK)] 47 (0, 0)) := by rw [hg8]; rfl
          clear hW8 hg8 hf8 z0 z1 z2 z3 z4 z5 z6 z7 p0 p1 p2 p3 p4 p5 p6 p7 hcv hg7 hz7 hb37
          have HB8 := Lib.hid hb8
          obtain ⟨z0, z1, z2, z3, z4, z5, z6, z7⟩ := box8 hg9
          obtain ⟨y0, y1, y2, y3, y4, y5, y6, y7⟩ := box8 hz8
          obtain ⟨p0, p1, p2, p3, p4, p5, p6, p7⟩ := froz8 hz8
          have hk8 : (keyC cx).val = .agg #[.int .i64 cx.length, .int .i64 (cx.getD 0 0), .int .i64 (cx.getD 1 0), .int .i64 (cx.getD 2 0), .int .i64 (cx.getD 3 0), .int .i64 (cx.getD 4 0), .int .i64 (cx.getD 5 0), .string (strOf PK)] := by rw [← hS]; rfl
          have HK := Lib.hid hk8
          clear hg9 hz8 hk8 hS hb8
          generalize cx.getD 0 0 = g0 at *
          generalize cx.getD 1 0 = g1 at *
          generalize cx.getD 2 0 = g2 at *
          generalize cx.getD 3 0 = g3 at *
          generalize cx.getD 4 0 = g4 at *
          generalize cx.getD 5 0 = g5 at *
          generalize strOf PK = SS at *
          go_wp2_with fail
          refine bodyPost_ret (v := .tuple #[(keyC cx).val, .int .i64 0]) (by rw [HK.out]; simp [results, Try.results27, go_sem, y0, y1, y2, y3, y4, y5, y6, y7]) rfl ?_
          have hf := fr_set8 W8 w.heap.size (.int .i64 cx.length) (.int .i64 g0) (.int .i64 g1) (.int .i64 g2) (.int .i64 g3) (.int .i64 g4) (.int .i64 g5) (.string SS)
          exact ⟨rfl, HB8.out.trans (hf.below HB8.out.size (fun b e => by omega))⟩
    · have hcm1 : ¬ (c1 : Int) = (m : Int) := by omega
      have hcm2 : (m : Int) ≤ (cx.length : Int) := by omega
      have hcm3 : ¬ c1 = m := hcm
      clear hcs
      have HQQ := Lib.hid hq
      clear hq
      go_wp2_with (refine wpList_copy_splice rfl (.tmp 24) (.tmp 25) 22 22 rfl 3 Try.underlying22 (by kernel_rfl) (some ⟨w1.heap.size, 1, none⟩) A1 6 6 cx.length c1 rfl rfl w1.heap.size 1 _ 47 hg X1 (HCS.out.trans HNM.out.symm) hpos hfit h1c w1.heap.size W2 (Below.refl _ _) (Nat.le_refl _) ?_; intro w3 hg3 hb3; rw [HCS.out])
      rw [← HQQ.out]
      have HRD := Lib.hid (HRD3.out w3 hb3)
      generalize (A1.map fun x => x.add m) = X at *
      have hgc := hg3.out
      rw [HSPL.out] at hgc
      have hzc := (hb3.block _ hlt1).trans hz2'
      have hltg := lt_of_blk hgc
      have hltz := lt_of_blk hzc
      have HB13 := Lib.hid (Below.trans (HB1.out) ((HB2.out.trans hb3).mono HB1.out.size))
      have HGC := Lib.hid hgc
      have HZC := Lib.hid hzc
      clear hg3 hb3 hpos h1c hfit hgc hzc hg hz hz2' hr2
      go_loopw [8, 31] (fun y x wr => ∃ (i : Nat), i ≤ q ∧ x = .int .i64 i ∧ wr.ownsRow w3.heap.size 52 1 y i (words (((cx.drop m).map zigN).take i)) ∧ Below w3.heap.size w3 wr) (fun _ x _ => q - (intOf x).toNat)
      case atStart => exact ⟨0, Nat.zero_le _, rfl, World.ownsRow_nil _ _ _ _, Below.refl _ _⟩
      case round =>
        obtain ⟨i, hi', rfl, hown, hbk⟩ := hrel
        by_cases hlt : i < q
        ·
          obtain ⟨b5, o5, u5, e5, hu5, hc5⟩ := (HRD.out.below hbk).at_ hlt
          subst e5
          have hgl : (cx.drop m)[i]? = some ((cx.drop m).getD i 0) := by rw [List.getD_eq_getElem?_getD, List.getElem?_eq_getElem (by rw [HQ.out]; omega)]; rfl
          unfold ints at hu5
          rw [List.getElem?_map, hgl] at hu5
          injection hu5 with hu5
          subst hu5
          have hsn : words (((cx.drop m).map zigN).take (i + 1)) = words (((cx.drop m).map zigN).take i) ++ [.int .u64 ((zigN ((cx.drop m).getD i 0) : Nat) : Int)] := by
            rw [List.take_add_one, List.getElem?_map, hgl, words_append]; rfl
          have hl5 : IsI64 ((cx.drop m).getD i 0) := by
            have := HLIT.out _ (List.mem_of_mem_drop (getD_mem (cx.drop m) i (by rw [HQ.out]; omega)))
            exact ⟨by have := this.2.1; omega, this.2.2⟩
          generalize (cx.drop m).getD i 0 = L at *
          have hz5 := zig_any L wr hl5.1 hl5.2
          rw [(zigN_eq L hl5).1] at hz5
          have HSN := Lib.hid hsn
          clear hsn hgl hl5
          generalize zigN L = Z at *
          go_wp2_with (first | (go_at_call 49; refine hz5.mono ?_; rintro e w' ⟨rfl, hw⟩; obtain rfl := hw) | (at_builtin; refine app1 w3.heap.size w3 wr (.int .u64 (Z : Int)) 52 rfl _ _ 84 rfl i0 (.int .u64 0) 8 Try.underlying84 hi hz0 hz1 hz2 rfl (by decide) _ i _ rfl (Nat.le_refl _) hown hbk rfl rfl (by omega) ?_))
          intro v6 w6 hown6 hb6 hg6
          have HOWN6 := Lib.hid hown6
          clear hown6 hg6 hown hbk
          go_wp2_with fail
          go_roundw
          case rel => exact ⟨i + 1, by omega, by go_num, by rw [HSN.out, List.map_drop]; exact HOWN6.out, hb6⟩
          case measure => simp [intOf]; omega
        · obtain rfl : q = i := by omega
          rw [List.take_of_length_le (Nat.le_of_eq (by rw [List.length_map, HQ.out]))] at hown
          obtain ⟨A5, c5, rfl, _, hr5⟩ := ownsRow_form hown
          have hpk := pack_any ((cx.drop m).map zigN) A5 q c5 wr (by rw [List.length_map, HQ.out]) (by omega) hr5 (fun u hu => by
            obtain ⟨l, hl', rfl⟩ := List.mem_map.1 hu
            have := HLIT.out l (List.mem_of_mem_drop hl')
            exact (zigN_eq l ⟨by have := this.2.1; omega, this.2.2⟩).2)
          have hpb := packs_bytes ((cx.drop m).map zigN)
          have hS : (keyC cx).s = strOf (packs ((cx.drop m).map zigN)) := by unfold keyC; rw [HDR.out]
          generalize packs ((cx.drop m).map zigN) = PK at *
          have HB5 := Lib.hid hbk
          clear hown hr5 hbk
          go_upto_region 13 with (go_at_call 50; refine hpk.mono ?_; rintro e w7 ⟨v7, rfl, ho7, hb7⟩; obtain ⟨A7, c7, rfl, _, hr7⟩ := ownsRow_form ho7; have hcv := run_str (P := Try.prog) (c := c7) 50 9 5 Try.underlying50 Try.underlying5 Try.underlying9 rfl hr7 hpb; have hb37 := bstepC HB5.out hb7; have hg7 := (hb37.block _ hltg).trans HGC.out; have hz7 := (hb37.block _ hltz).trans HZC.out; obtain ⟨z0, z1, z2, z3, z4, z5, z6, z7⟩ := box8 hg7; obtain ⟨p0, p1, p2, p3, p4, p5, p6, p7⟩ := froz8 hg7; clear ho7 hr7 hpk)
          have hg8 := set_blk hg7 7 (.string (strOf PK))
          have hf8 := (Fr.refl (fun x => x = w1.heap.size) w7).setCell ⟨w1.heap.size, 7, none⟩ (.string (strOf PK)) (.inl rfl)
          have hz8 := (hf8.block w.heap.size (lt_of_blk hz7) (by omega)).trans hz7
          have hb8 := (HB13.out.trans (hb37.mono HB13.out.size)).trans (hf8.below (Nat.le_of_lt (lt_of_blk hz7)) (fun b e => by omega))
          obtain ⟨W8, hW8⟩ : ∃ W, W = w7.setCell ⟨w1.heap.size, 7, none⟩ (.string (strOf PK)) := ⟨_, rfl⟩
          rw [← hW8] at hg8 hz8 hb8 ⊢
          have hg9 : W8.heap[w1.heap.size]? = some (.cells #[.int .i64 cx.length, .int .i64 (cx.getD 0 0), .int .i64 (cx.getD 1 0), .int .i64 (cx.getD 2 0), .int .i64 (cx.getD 3 0), .int .i64 (cx.getD 4 0), .int .i64 (cx.getD 5 0), .string (strOf PK)] 47 (0, 0)) := by rw [hg8]; rfl
          clear hW8 hg8 hf8 z0 z1 z2 z3 z4 z5 z6 z7 p0 p1 p2 p3 p4 p5 p6 p7 hcv hg7 hz7 hb37
          have HB8 := Lib.hid hb8
          obtain ⟨z0, z1, z2, z3, z4, z5, z6, z7⟩ := box8 hg9
          obtain ⟨y0, y1, y2, y3, y4, y5, y6, y7⟩ := box8 hz8
          obtain ⟨p0, p1, p2, p3, p4, p5, p6, p7⟩ := froz8 hz8
          have hk8 : (keyC cx).val = .agg #[.int .i64 cx.length, .int .i64 (cx.getD 0 0), .int .i64 (cx.getD 1 0), .int .i64 (cx.getD 2 0), .int .i64 (cx.getD 3 0), .int .i64 (cx.getD 4 0), .int .i64 (cx.getD 5 0), .string (strOf PK)] := by rw [← hS]; rfl
          have HK := Lib.hid hk8
          clear hg9 hz8 hk8 hS hb8
          generalize cx.getD 0 0 = g0 at *
          generalize cx.getD 1 0 = g1 at *
          generalize cx.getD 2 0 = g2 at *
          generalize cx.getD 3 0 = g3 at *
          generalize cx.getD 4 0 = g4 at *
          generalize cx.getD 5 0 = g5 at *
          generalize strOf PK = SS at *
          go_wp2_with fail
          refine bodyPost_ret (v := .tuple #[(keyC cx).val, .int .i64 0]) (by rw [HK.out]; simp [results, Try.results27, go_sem, y0, y1, y2, y3, y4, y5, y6, y7]) rfl ?_
          have hf := fr_set8 W8 w.heap.size (.int .i64 cx.length) (.int .i64 g0) (.int .i64 g1) (.int .i64 g2) (.int .i64 g3) (.int .i64 g4) (.int .i64 g5) (.string SS)
          exact ⟨rfl, HB8.out.trans (hf.below HB8.out.size (fun b e => by omega))⟩
end Go.Proofs.Ytbcabcdgblmnkaa
