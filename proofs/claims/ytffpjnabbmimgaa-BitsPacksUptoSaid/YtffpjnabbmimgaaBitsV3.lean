/- Contracts: Pack, Unpack, their reference, the law's same; the walks of BitsVars and BitsPacks. -/
import Derived.Test.YtffpjnabbmimgaaBitsV2
import Derived.Test.YtffpjnabbmimgaaBitsC
import Derived.Test.YtffpjnabbmimgaaOpen
namespace Go.Proofs.Ytffpjnabbmimgaa
open Go.RowKit

theorem info_u64 : (Try.prog.info? 22).map (fun i => (i.zero, i.size, i.bytes)) = some (some (.int .u64 0), 1, 8) := by kernel_rfl
def words (l : List Nat) : List Value := l.map fun (u : Nat) => Value.int .u64 (u : Int)
theorem words_append (a b : List Nat) : words (a ++ b) = words a ++ words b := by simp [words]
theorem words_length (l : List Nat) : (words l).length = l.length := by simp [words]
theorem words_get (l : List Nat) (k : Nat) (h : k < l.length) : (words l)[k]? = some (.int .u64 (l[k] : Nat)) := by simp [words, h]

def packs (us : List Nat) : List Int := us.flatMap vint
theorem packs_length (us : List Nat) (h : ∀ u ∈ us, u < 18446744073709551616) : (packs us).length ≤ 10 * us.length := by
  induction us with
  | nil => simp [packs]
  | cons u us ih =>
    have h1 := vint_length64 u (h u (by simp))
    have h2 := ih fun v hv => h v (by simp [hv])
    simp only [packs, List.flatMap_cons, List.length_append, List.length_cons] at *
    omega
theorem packs_snoc (us : List Nat) (k : Nat) (h : k < us.length) : packs (us.take (k + 1)) = packs (us.take k) ++ vint us[k] := by
  rw [packs, packs, List.take_succ_eq_append_getElem h, List.flatMap_append]
  simp only [List.flatMap_cons, List.flatMap_nil, List.append_nil]

def unpkGo : Nat → List Int → List Nat → Option (List Nat)
  | _, [], acc => some acc
  | 0, _ :: _, _ => none
  | f + 1, c :: r, acc => if (unv (c :: r)).2 = 0 then none else unpkGo f ((c :: r).drop (unv (c :: r)).2) (acc ++ [(unv (c :: r)).1])
def unpk (l : List Int) : Option (List Nat) := unpkGo l.length l []
theorem unpkGo_step (f : Nat) (l : List Int) (acc : List Nat) (h : 0 < l.length) (hf : l.length ≤ f + 1) :
    unpkGo (f + 1) l acc = if (unv l).2 = 0 then none else unpkGo f (l.drop (unv l).2) (acc ++ [(unv l).1]) := by
  cases l with
  | nil => simp at h
  | cons c r => rfl
theorem unv_bound (l : List Int) (h0 : ∀ c ∈ l, 0 ≤ c) : (unv l).1 < 18446744073709551616 ∧ (unv l).2 ≤ l.length := by
  have := unvGo_bound l 0 0 (by decide) (by omega) h0
  unfold unv
  omega
theorem unpkGo_packs (us : List Nat) (h : ∀ u ∈ us, u < 18446744073709551616) (f : Nat) (acc : List Nat) (hf : (packs us).length ≤ f) : unpkGo f (packs us) acc = some (acc ++ us) := by
  induction us generalizing f acc with
  | nil => cases f <;> simp [packs, unpkGo]
  | cons u us ih =>
    have hp := vint_pos u
    have e : packs (u :: us) = vint u ++ packs us := by simp [packs]
    rw [e] at hf ⊢
    rw [List.length_append] at hf
    obtain ⟨g, rfl⟩ : ∃ g, f = g + 1 := ⟨f - 1, by omega⟩
    rw [unpkGo_step _ _ _ (by rw [List.length_append]; omega) (by rw [List.length_append]; omega), unv_vint u _ (h u (by simp))]
    simp only
    rw [if_neg (by omega), List.drop_left, ih (fun v hv => h v (by simp [hv])) g _ (by omega)]
    simp
theorem unpk_packs (us : List Nat) (h : ∀ u ∈ us, u < 18446744073709551616) : unpk (packs us) = some us := by
  have := unpkGo_packs us h (packs us).length [] (Nat.le_refl _)
  simpa [unpk] using this
theorem unpkGo_bound (f : Nat) (l : List Int) (acc us : List Nat) (h : unpkGo f l acc = some us) (hacc : ∀ u ∈ acc, u < 18446744073709551616) (h0 : ∀ c ∈ l, 0 ≤ c) : (∀ u ∈ us, u < 18446744073709551616) ∧ us.length ≤ acc.length + l.length := by
  induction f generalizing l acc with
  | zero =>
    cases l with
    | nil => simp [unpkGo] at h; subst h; exact ⟨hacc, by simp⟩
    | cons c r => simp [unpkGo] at h
  | succ f ih =>
    cases l with
    | nil => simp [unpkGo] at h; subst h; exact ⟨hacc, by simp⟩
    | cons c r =>
      have h' : (if (unv (c :: r)).2 = 0 then none else unpkGo f ((c :: r).drop (unv (c :: r)).2) (acc ++ [(unv (c :: r)).1])) = some us := h
      have hb := unv_bound (c :: r) h0
      by_cases hz : (unv (c :: r)).2 = 0
      · rw [if_pos hz] at h'; cases h'
      · rw [if_neg hz] at h'
        obtain ⟨h1, h2⟩ := ih _ _ h' (fun u hu => by
          rcases List.mem_append.1 hu with hu | hu
          · exact hacc u hu
          · simp at hu; subst hu; exact hb.1) (fun d hd => h0 d (List.mem_of_mem_drop hd))
        refine ⟨h1, ?_⟩
        simp only [List.length_append, List.length_drop, List.length_cons, List.length_nil] at h2 ⊢
        omega

theorem own_below {w w' : World} {B : Nat} {e : TypeId} {size n : Nat} {v : Value} {xs : List Value} (h : w.ownsRow B e size v n xs) (hb : Below w.heap.size w w') : w'.ownsRow B e size v n xs :=
  h.kept (row := none) ⟨hb.os, hb.tape, hb.output, hb.size, fun k hk _ => hb.block k hk⟩ (by cases v.ownBlock <;> simp)
theorem below_drewN {B : Nat} {a w : World} (h : Below B a w) (q : Nat) : Below B a (w.drewN q) := ⟨h.os, h.tape, h.output, h.size, h.block⟩

theorem pack_any (us : List Nat) (A : Option Addr) (n c : Nat) (w : World) (hl : us.length = n) (hn : n ≤ 1099511627776) (hr : Rd w 1 A n (words us)) (hwf : ∀ u ∈ us, u < 18446744073709551616) :
    Calls Try.prog 36 #[.slice A n c] w fun e w' => ∃ v, e = .returned v ∧ w'.ownsRow w.heap.size 5 1 v (packs us).length (bytes8 (packs us)) ∧ Below w.heap.size w w' := by
  go_enter Try.func36, Try.ntmps36
  go_wp2_with fail
  go_loopw [3, 8] (fun b i wr => ∃ k : Nat, k ≤ n ∧ i = .int .i64 k ∧ wr.ownsRow w.heap.size 5 1 b (packs (us.take k)).length (bytes8 (packs (us.take k))) ∧ Below w.heap.size w wr) (fun _ i _ => n - (intOf i).toNat)
  case atStart => exact ⟨0, Nat.zero_le _, rfl, World.ownsRow_nil _ _ _ _, Below.refl _ _⟩
  case round =>
    obtain ⟨k, hk, rfl, hown, hb⟩ := hrel
    by_cases hlt : k < n
    · obtain ⟨b1, o1, u1, rfl, hu1, hc1⟩ := (hr.below hb).at_ hlt
      rw [words_get us k (by omega)] at hu1
      injection hu1 with hu1
      have hx := hwf us[k] (List.getElem_mem _)
      have hs := packs_snoc us k (by omega)
      have hlen := packs_length (us.take k) (fun u hu => hwf u (List.mem_of_mem_take hu))
      rw [List.length_take] at hlen
      generalize us[k] = X at *
      subst hu1
      have hm := more_any w.heap.size _ _ (packs (us.take k)) X wr hx hown hb.size (by omega)
      have HM := Lib.hid hm
      have HS := Lib.hid hs
      clear hm hs hown hr hwf
      go_wp2_with fail
      refine HM.out.mono ?_
      rintro e w1 ⟨v1, rfl, hown1, hb1⟩
      go_wp2_with fail
      go_roundw
      case rel =>
        refine ⟨k + 1, by omega, by go_num, ?_, hb.trans hb1⟩
        rw [HS.out, List.length_append]
        exact hown1
      case measure => simp [intOf]; omega
    · obtain rfl : k = n := by omega
      rw [List.take_of_length_le (by omega)] at hown
      go_wp2_with fail
      go_ret
      exact ⟨_, rfl, hown, hb⟩

def lenOf : Value → Nat
  | .slice _ m _ => m
  | _ => 0

theorem unpack_any (xs : List Int) (A : Option Addr) (n c : Nat) (w : World) (hl : xs.length = n) (hnc : n ≤ c) (hn : n ≤ 1099511627776) (hr : Rd w 1 A n (bytes8 xs)) (hwf : ∀ x ∈ xs, 0 ≤ x ∧ x ≤ 255) :
    Calls Try.prog 37 #[.slice A n c] w fun e w' => ∃ v, e = .returned (.tuple #[v, .bool (unpk xs).isSome]) ∧ w'.ownsRow w.heap.size 22 1 v ((unpk xs).getD []).length (words ((unpk xs).getD [])) ∧ Below w.heap.size w w' := by
  obtain ⟨i0, hi, hz0, hz1, hz2⟩ := info_parts info_u64
  go_enter Try.func37, Try.ntmps37
  go_wp2_with fail
  go_loopw [0, 4] (fun b o wr => ∃ (f m cc : Nat) (ys : List Int) (us : List Nat) (A' : Option Addr), b = .slice A' m cc ∧ ys.length = m ∧ m ≤ cc ∧ m ≤ f ∧ us.length + m ≤ n ∧ Rd w 1 A' m (bytes8 ys) ∧ (∀ x ∈ ys, 0 ≤ x ∧ x ≤ 255) ∧ unpk xs = unpkGo f ys us ∧ wr.ownsRow w.heap.size 22 1 o us.length (words us) ∧ Below w.heap.size w wr)
    (fun b _ _ => lenOf b)
  case atStart => exact ⟨n, n, c, xs, [], A, rfl, hl, hnc, Nat.le_refl _, by simp, hr, hwf, by rw [unpk, hl], World.ownsRow_nil _ _ _ _, Below.refl _ _⟩
  case round =>
    clear hr hwf hl
    obtain ⟨f, m, cc, ys, us, A', rfl, hl, hmc, hmf, hum, hr, hwf, hun, hown, hb⟩ := hrel
    by_cases hlt : 0 < m
    · obtain ⟨g, rfl⟩ : ∃ g, f = g + 1 := ⟨f - 1, by omega⟩
      rw [unpkGo_step g ys us (by omega) (by omega)] at hun
      obtain ⟨hb1, hb2⟩ := unv_bound ys fun x hx => (hwf x hx).1
      have hcall := unvar_any ys A' m cc wr hl (by omega) (hr.below hb) hwf
      have hcut := hr.cut (k := (unv ys).2) (cap := cc) (by omega) (by omega)
      have hwf2 : ∀ x ∈ ys.drop (unv ys).2, 0 ≤ x ∧ x ≤ 255 := fun x hx => hwf x (List.mem_of_mem_drop hx)
      rw [bytes8, ← List.map_drop] at hcut
      have hdl : (ys.drop (unv ys).2).length = m - (unv ys).2 := by rw [List.length_drop, hl]
      generalize (unv ys).2 = N at *
      generalize (unv ys).1 = U at *
      generalize ys.drop N = zs at *
      have HC := Lib.hid hcall
      have HU := Lib.hid hun
      have HR := Lib.hid hcut
      have HW := Lib.hid hwf2
      clear hcall hun hcut hwf2 hr hwf
      by_cases hz : N = 0
      · subst hz
        go_wp2_with fail
        refine HC.out.mono ?_
        rintro e w' ⟨rfl, rfl⟩
        go_wp2_with fail
        go_ret2
        have : unpk xs = none := by rw [HU.out]; simp
        rw [this]
        exact ⟨_, rfl, World.ownsRow_nil _ _ _ _, hb⟩
      · have hzb : ((N : Int) == 0) = false := by simpa using hz
        go_wp2_with fail
        refine HC.out.mono ?_
        rintro e w' ⟨rfl, rfl⟩
        go_wp2_with (at_builtin; refine app1 w.heap.size w wr _ 22 rfl _ _ 49 rfl i0 (.int .u64 0) 8 Try.underlying49 hi hz0 hz1 hz2 rfl (by decide) _ us.length _ rfl (Nat.le_refl _) hown hb rfl rfl (by omega) ?_)
        intro v1 w1 hown1 hb3 _
        clear hown hb
        go_wp2_with fail
        go_roundw
        case rel => exact ⟨g, m - N, cc - N, zs, us ++ [U], _, rfl, hdl, by omega, by omega, by simp only [List.length_append, List.length_cons, List.length_nil]; omega, HR.out, HW.out, by rw [HU.out, if_neg hz], by rw [words_append, List.length_append]; exact hown1, hb3⟩
        case measure => simp [lenOf]; omega
    · obtain rfl : m = 0 := by omega
      have hys : ys = [] := List.eq_nil_of_length_eq_zero hl
      subst hys
      have hz : unpk xs = some us := by rw [hun]; cases f <;> rfl
      have HZ := Lib.hid hz
      clear hz hun
      go_wp2_with fail
      go_ret2
      rw [HZ.out]
      exact ⟨_, rfl, hown, hb⟩

set_option maxHeartbeats 400000 in
theorem runpack_any (xs : List Int) (A : Option Addr) (n c : Nat) (w : World) (hl : xs.length = n) (hnc : n ≤ c) (hn : n ≤ 1099511627776) (hr : Rd w 1 A n (bytes8 xs)) (hwf : ∀ x ∈ xs, 0 ≤ x ∧ x ≤ 255) :
    Calls Try.prog 38 #[.slice A n c] w fun e w' => ∃ v, e = .returned (.tuple #[v, .bool (unpk xs).isSome]) ∧ w'.ownsRow w.heap.size 22 1 v ((unpk xs).getD []).length (words ((unpk xs).getD [])) ∧ Below w.heap.size w w' := by
  obtain ⟨i0, hi, hz0, hz1, hz2⟩ := info_parts info_u64
  go_enter Try.func38, Try.ntmps38
  go_wp2_with fail
  go_loopw [4, 5] (fun o i wr => ∃ (f k : Nat) (us : List Nat), k ≤ n ∧ i = .int .i64 k ∧ n - k ≤ f ∧ us.length ≤ k ∧ unpk xs = unpkGo f (xs.drop k) us ∧ wr.ownsRow w.heap.size 22 1 o us.length (words us) ∧ Below w.heap.size w wr)
    (fun _ i _ => n - (intOf i).toNat)
  case atStart => exact ⟨n, 0, [], Nat.zero_le _, rfl, by omega, by simp, by rw [unpk, hl]; rfl, own_empty _ _ _ (Nat.le_refl _), (Below.refl _ _).alloc (Nat.le_refl _) _⟩
  case round =>
    obtain ⟨f, k, us, hk, rfl, hmf, hum, hun, hown, hb⟩ := hrel
    by_cases hlt : k < n
    · obtain ⟨g, rfl⟩ : ∃ g, f = g + 1 := ⟨f - 1, by omega⟩
      have hdl : (xs.drop k).length = n - k := by rw [List.length_drop, hl]
      rw [unpkGo_step g _ us (by omega) (by omega)] at hun
      have hwf2 : ∀ x ∈ xs.drop k, 0 ≤ x ∧ x ≤ 255 := fun x hx => hwf x (List.mem_of_mem_drop hx)
      obtain ⟨hb1, hb2⟩ := unv_bound (xs.drop k) fun x hx => (hwf2 x hx).1
      have hcut := hr.cut (k := k) (cap := c) (by omega) (by omega)
      rw [bytes8, ← List.map_drop] at hcut
      have hdd : (xs.drop k).drop (unv (xs.drop k)).2 = xs.drop (k + (unv (xs.drop k)).2) := by rw [List.drop_drop]
      rw [hdd] at hun
      have hcall := fun A' hA => runvar_any (xs.drop k) A' (n - k) (c - k) wr hdl (by omega) (by omega) hA hwf2
      generalize (unv (xs.drop k)).2 = N at *
      generalize (unv (xs.drop k)).1 = U at *
      have HC := Lib.hid hcall
      have HU := Lib.hid hun
      have HR := Lib.hid (hcut.below hb)
      clear hcall hun hcut hr hwf hwf2 hdd
      by_cases hz : N = 0
      · subst hz
        have hck : ¬ c = k := by omega
        go_wp2_with fail
        refine (HC.out _ (by have := HR.out; rwa [if_neg hck] at this)).mono ?_
        rintro e w1 ⟨rfl, hb1'⟩
        go_wp2_with fail
        go_ret2
        have : unpk xs = none := by rw [HU.out]; simp
        rw [this]
        exact ⟨_, rfl, World.ownsRow_nil _ _ _ _, hb.trans (hb1'.mono hb.size)⟩
      · have hzb : ((N : Int) == 0) = false := by simpa using hz
        have hck : ¬ c = k := by omega
        go_wp2_with fail
        refine (HC.out _ (by have := HR.out; rwa [if_neg hck] at this)).mono ?_
        rintro e w1 ⟨rfl, hb1'⟩
        have hown' := own_below hown hb1'
        have hb' := hb.trans (hb1'.mono hb.size)
        clear hown hb1' HC HR
        go_wp2_with (at_builtin; refine app1 w.heap.size w w1 _ 22 rfl _ _ 49 rfl i0 (.int .u64 0) 8 Try.underlying49 hi hz0 hz1 hz2 rfl (by decide) _ us.length _ rfl (Nat.le_refl _) hown' hb' rfl rfl (by omega) ?_)
        intro v1 w2 hown1 hb3 _
        clear hown' hb'
        go_wp2_with fail
        go_roundw
        case rel => exact ⟨g, k + N, us ++ [U], by omega, by go_num, by omega, by simp only [List.length_append, List.length_cons, List.length_nil]; omega, by rw [HU.out, if_neg hz], by rw [words_append, List.length_append]; exact hown1, hb3⟩
        case measure => simp [intOf]; omega
    · obtain rfl : k = n := by omega
      rw [List.drop_of_length_le (by omega)] at hun
      have hz : unpk xs = some us := by rw [hun]; cases f <;> rfl
      have HZ := Lib.hid hz
      clear hz hun
      go_wp2_with fail
      go_ret2
      rw [HZ.out]
      exact ⟨_, rfl, hown, hb⟩

theorem same64_any (xs ys : List Nat) (A1 A2 : Option Addr) (n1 n2 c1 c2 : Nat) (w : World) (h1 : xs.length = n1) (h2 : ys.length = n2) (hn : n1 ≤ 9223372036854775807) (hn2 : n2 ≤ 9223372036854775807) (hr1 : Rd w 1 A1 n1 (words xs)) (hr2 : Rd w 1 A2 n2 (words ys)) :
    Calls Try.prog 39 #[.slice A1 n1 c1, .slice A2 n2 c2] w fun e w' => e = .returned (.bool (decide (xs = ys))) ∧ ∃ q, w' = w.drewN q := by
  by_cases hne : n1 = n2
  · subst hne
    go_enter Try.func39, Try.ntmps39
    go_wp2_with fail
    go_loopw [13] (fun i wr => ∃ k : Nat, k ≤ n1 ∧ i = .int .i64 k ∧ xs.take k = ys.take k ∧ ∃ q, wr = w.drewN q) (fun i _ => n1 - (intOf i).toNat)
    case atStart => exact ⟨0, Nat.zero_le _, rfl, rfl, 0, rfl⟩
    case round =>
      obtain ⟨k, hk, rfl, htk, q, rfl⟩ := hrel
      have HT := Lib.hid htk; clear htk
      by_cases hlt : k < n1
      · obtain ⟨b1, o1, u1, rfl, hu1, hc1⟩ := hr1.at_ hlt
        obtain ⟨b2, o2, u2, rfl, hu2, hc2⟩ := hr2.at_ hlt
        rw [words_get xs k (by omega)] at hu1
        rw [words_get ys k (by omega)] at hu2
        injection hu1 with hu1; injection hu2 with hu2
        generalize hX : xs[k] = X at *
        generalize hY : ys[k] = Y at *
        subst hu1; subst hu2
        have HX := Lib.hid hX; have HY := Lib.hid hY
        clear hX hY hr1 hr2
        by_cases he : X = Y
        · subst he
          go_wp2_with fail
          go_quiet (fail)
          go_wp2_with fail
          go_roundw
          case rel =>
            refine ⟨k + 1, by omega, by go_num, ?_, q + nq, by first | rfl | rw [World.drewN_drewN]⟩
            rw [List.take_succ_eq_append_getElem (by omega), List.take_succ_eq_append_getElem (by omega), HT.out, HX.out, HY.out]
          case measure => simp [intOf]; omega
        · have hb : ((X : Int) != (Y : Int)) = true := by rw [bne_iff_ne]; omega
          go_wp2_with fail
          go_quiet (fail)
          go_wp2_with fail
          go_ret
          refine ⟨ret_bool ?_, q + nq, by first | rfl | rw [World.drewN_drewN]⟩
          symm
          rw [decide_eq_false_iff_not]
          intro h
          apply he
          rw [← HX.out, ← HY.out]
          simp [h]
      · obtain rfl : k = n1 := by omega
        go_wp2_with fail
        go_ret
        refine ⟨ret_bool ?_, _, rfl⟩
        have := HT.out
        rw [List.take_of_length_le (by omega), List.take_of_length_le (by omega)] at this
        simp [this]
  · have hb : ((n1 : Int) != (n2 : Int)) = true := by rw [bne_iff_ne]; omega
    go_enter Try.func39, Try.ntmps39
    go_wp2_with fail
    go_ret
    refine ⟨ret_bool ?_, 0, rfl⟩
    symm
    rw [decide_eq_false_iff_not]
    intro h
    rw [h] at h1
    omega
end Go.Proofs.Ytffpjnabbmimgaa
