/- Keys of clauses: equal just where the clauses are; equality of keys as the program tells it. -/
import Derived.Test.YtbcabcdgblmnkaaClKey
namespace Go.Proofs.Ytbcabcdgblmnkaa
open Go.RowKit
set_option linter.unusedVariables false
set_option linter.unusedSimpArgs false

theorem vint_split (u v : Nat) (s t : List Int) (hu : u < 18446744073709551616) (hv : v < 18446744073709551616) (h : vint u ++ s = vint v ++ t) : u = v ∧ s = t := by
  have h1 := unv_vint u s hu
  rw [h, unv_vint v t hv] at h1
  injection h1 with h1 h2
  subst h1
  exact ⟨rfl, List.append_cancel_left h⟩
theorem packs_inj (us vs : List Nat) (hu : ∀ u ∈ us, u < 18446744073709551616) (hv : ∀ u ∈ vs, u < 18446744073709551616) (h : packs us = packs vs) : us = vs := by
  induction us generalizing vs with
  | nil =>
    cases vs with
    | nil => rfl
    | cons v vs =>
      have hp := vint_pos v
      have := congrArg List.length h
      simp only [packs, List.flatMap_cons, List.flatMap_nil, List.length_append, List.length_nil] at this
      omega
  | cons u us ih =>
    cases vs with
    | nil =>
      have hp := vint_pos u
      have := congrArg List.length h
      simp only [packs, List.flatMap_cons, List.flatMap_nil, List.length_append, List.length_nil] at this
      omega
    | cons v vs =>
      have e : vint u ++ packs us = vint v ++ packs vs := by simpa [packs] using h
      obtain ⟨h1, h2⟩ := vint_split u v _ _ (hu u (by simp)) (hv v (by simp)) e
      rw [h1, ih vs (fun x hx => hu x (by simp [hx])) (fun x hx => hv x (by simp [hx])) h2]
theorem strOf_inj (xs ys : List Int) (hx : ∀ x ∈ xs, 0 ≤ x ∧ x ≤ 255) (hy : ∀ x ∈ ys, 0 ≤ x ∧ x ≤ 255) (h : strOf xs = strOf ys) : xs = ys := by
  unfold strOf at h
  injection h with h
  replace h : xs.map (fun x => UInt8.ofNat x.toNat) = ys.map (fun x => UInt8.ofNat x.toNat) := by simpa using congrArg Array.toList h
  induction xs generalizing ys with
  | nil =>
    cases ys with
    | nil => rfl
    | cons y ys => simp at h
  | cons x xs ih =>
    cases ys with
    | nil => simp at h
    | cons y ys =>
      simp only [List.map_cons, List.cons.injEq] at h
      have h1 := congrArg UInt8.toNat h.1
      rw [UInt8.toNat_ofNat', UInt8.toNat_ofNat'] at h1
      have a1 := hx x (by simp)
      have a2 := hy y (by simp)
      rw [show x = y by omega, ih ys (fun z hz => hx z (by simp [hz])) (fun z hz => hy z (by simp [hz])) h.2]
theorem zigN_inj (a b : Int) (ha : IsI64 a) (hb : IsI64 b) (h : zigN a = zigN b) : a = b := by
  have h1 := (zigN_eq a ha).1
  have h2 := (zigN_eq b hb).1
  have : zig a = zig b := by rw [h1, h2, h]
  rw [← zag_zig a, ← zag_zig b, this]
theorem map_zig_inj (xs ys : List Int) (hx : ∀ l ∈ xs, IsI64 l) (hy : ∀ l ∈ ys, IsI64 l) (h : xs.map zigN = ys.map zigN) : xs = ys := by
  induction xs generalizing ys with
  | nil =>
    cases ys with
    | nil => rfl
    | cons y ys => simp at h
  | cons x xs ih =>
    cases ys with
    | nil => simp at h
    | cons y ys =>
      simp only [List.map_cons, List.cons.injEq] at h
      rw [zigN_inj x y (hx x (by simp)) (hy y (by simp)) h.1, ih ys (fun z hz => hx z (by simp [hz])) (fun z hz => hy z (by simp [hz])) h.2]
theorem zigs_lt (xs : List Int) (hx : ∀ l ∈ xs, IsI64 l) : ∀ u ∈ xs.map zigN, u < 18446744073709551616 := fun u hu => by
  obtain ⟨l, hl, rfl⟩ := List.mem_map.1 hu
  exact (zigN_eq l (hx l hl)).2
theorem key_inj (xs ys : List Int) (hx : ∀ l ∈ xs, IsI64 l) (hy : ∀ l ∈ ys, IsI64 l) : keyC xs = keyC ys ↔ xs = ys := by
  constructor
  · intro h
    unfold keyC at h
    injection h with h0 h1 h2 h3 h4 h5 h6 h7
    have hx6 : ∀ l ∈ xs.drop 6, IsI64 l := fun l hl => hx l (List.mem_of_mem_drop hl)
    have hy6 : ∀ l ∈ ys.drop 6, IsI64 l := fun l hl => hy l (List.mem_of_mem_drop hl)
    have hd := map_zig_inj _ _ hx6 hy6 (packs_inj _ _ (zigs_lt _ hx6) (zigs_lt _ hy6) (strOf_inj _ _ (packs_bytes _) (packs_bytes _) h7))
    have hlen : xs.length = ys.length := by omega
    refine List.ext_getElem hlen fun i hi hi' => ?_
    have g : xs.getD i 0 = ys.getD i 0 := by
      by_cases h6' : i < 6
      · have : i = 0 ∨ i = 1 ∨ i = 2 ∨ i = 3 ∨ i = 4 ∨ i = 5 := by omega
        rcases this with rfl | rfl | rfl | rfl | rfl | rfl <;> assumption
      · obtain ⟨k, rfl⟩ : ∃ k, i = 6 + k := ⟨i - 6, by omega⟩
        rw [List.getD_eq_getElem?_getD, List.getD_eq_getElem?_getD, ← List.getElem?_drop, ← List.getElem?_drop, hd]
    rw [List.getD_eq_getElem?_getD, List.getD_eq_getElem?_getD, List.getElem?_eq_getElem hi, List.getElem?_eq_getElem hi'] at g
    simpa using g
  · rintro rfl; rfl

theorem run_part_int (cs : Array Value) (i : Nat) (v : Value) (W : World) (hv : cs[i]? = some v) : (part 3 cs i).run Try.prog W = .ok v W := by
  have ha : (isAgg 3).run Try.prog W = .ok false W := by kernel_rfl
  simp [part, ha, hv, Result.andThen]
theorem run_arr6 (a b c d e f a' b' c' d' e' f' : Int) (W : World) (k : Nat) : (Op.equalIn (k + 1 + 1) 45 (.agg #[.int .i64 a, .int .i64 b, .int .i64 c, .int .i64 d, .int .i64 e, .int .i64 f]) (.agg #[.int .i64 a', .int .i64 b', .int .i64 c', .int .i64 d', .int .i64 e', .int .i64 f'])).run Try.prog W =
      .ok (decide (a = a' ∧ b = b' ∧ c = c' ∧ d = d' ∧ e = e' ∧ f = f')) W := by
  have hi := Try.underlying3
  have hce : Try.prog.cellsOf 3 = 1 := by kernel_rfl
  obtain ⟨ti, hti, _, _, _⟩ := info_parts info_int
  have hua := Try.underlying45
  have hpi := run_part_int
  rw [run_equalIn_array W (k + 1) _ _ hua hti, hce, show List.range 6 = [0, 1, 2, 3, 4, 5] from rfl]
  simp only [Op.eqItems]
  simp [hpi _ 0 (.int .i64 a), hpi _ 1 (.int .i64 b), hpi _ 2 (.int .i64 c), hpi _ 3 (.int .i64 d), hpi _ 4 (.int .i64 e), hpi _ 5 (.int .i64 f), hpi _ 0 (.int .i64 a'), hpi _ 1 (.int .i64 b'), hpi _ 2 (.int .i64 c'), hpi _ 3 (.int .i64 d'), hpi _ 4 (.int .i64 e'), hpi _ 5 (.int .i64 f'), run_equalIn_int _ _ _ _ _ _ _ hi, Result.andThen]
  by_cases h1 : a = a' <;> by_cases h2 : b = b' <;> by_cases h3 : c = c' <;> by_cases h4 : d = d' <;> by_cases h5 : e = e' <;> by_cases h6 : f = f' <;> simp [h1, h2, h3, h4, h5, h6]
theorem run_eql_key (p q : K8) (w : World) : (Op.equal 47 p.val q.val).run Try.prog w = .ok (decide (p = q)) w := by
  have hu := Try.underlying47
  have hp : Try.prog.stoodInHeld 47 = false := by kernel_rfl
  have hi := Try.underlying3
  have hst := Try.underlying9
  have hpi := run_part_int
  have hps : ∀ (cs : Array Value) (i : Nat) (v : Value) (W : World), cs[i]? = some v → (part 9 cs i).run Try.prog W = .ok v W := by
    intro cs i v W hv
    have ha : (isAgg 9).run Try.prog W = .ok false W := by kernel_rfl
    simp [part, ha, hv, Result.andThen]
  have hpa : ∀ (n a b c d e f : Int) (s : ByteArray) (W : World), (part 45 #[.int .i64 n, .int .i64 a, .int .i64 b, .int .i64 c, .int .i64 d, .int .i64 e, .int .i64 f, .string s] 1).run Try.prog W = .ok (.agg #[.int .i64 a, .int .i64 b, .int .i64 c, .int .i64 d, .int .i64 e, .int .i64 f]) W := by
    intro n a b c d e f s W
    have ha : (isAgg 45).run Try.prog W = .ok true W := by kernel_rfl
    have hs : (sizeOf 45).run Try.prog W = .ok 6 W := by kernel_rfl
    simp [part, ha, hs, Result.andThen]
  have harr := run_arr6
  obtain ⟨n, a, b, c, d, e, f, s⟩ := p
  obtain ⟨n', a', b', c', d', e', f', s'⟩ := q
  unfold K8.val
  simp only [Op.equal, Op.maxDepth]
  rw [run_equalIn_struct w _ 47 _ _ (by simp only [Program.fieldsOf, hu]) hp]
  simp only [Program.fieldsOf, hu]
  simp only [Op.eqFields]
  simp [hpi _ 0 (.int .i64 n), hpi _ 0 (.int .i64 n'), hpa, harr, hps _ 7 (.string s), hps _ 7 (.string s'), run_equalIn_int _ _ _ _ _ _ _ hi, run_equalIn_string _ _ _ _ _ hst, Result.andThen]
  have hss : s.toList = s'.toList ↔ s = s' := by
    rw [ByteArray.toList_eq, ByteArray.toList_eq]
    constructor
    · intro h
      obtain ⟨⟨x⟩⟩ := s
      obtain ⟨⟨y⟩⟩ := s'
      simp only at h
      rw [h]
    · rintro rfl; rfl
  simp only [hss]
  by_cases h0 : n = n' <;> by_cases h1 : a = a' <;> by_cases h2 : b = b' <;> by_cases h3 : c = c' <;> by_cases h4 : d = d' <;> by_cases h5 : e = e' <;> by_cases h6 : f = f' <;> by_cases h7 : s = s' <;> simp [h0, h1, h2, h3, h4, h5, h6, h7]
end Go.Proofs.Ytbcabcdgblmnkaa
