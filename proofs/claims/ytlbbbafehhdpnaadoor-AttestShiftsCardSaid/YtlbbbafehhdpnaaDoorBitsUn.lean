/- Contract of package bits: Unpack. -/
import Derived.Test.YtlbbbafehhdpnaaDoorBitsV
import Derived.Test.YtlbbbafehhdpnaaDoorBitsPk
import Derived.Test.YtlbbbafehhdpnaaDoorMem2
namespace Go.Proofs.YtlbbbafehhdpnaaDoor
open Go.RowKit

def unpkGo : Nat → List Int → List Nat → Option (List Nat)
  | _, [], acc => some acc
  | 0, _ :: _, _ => none
  | f + 1, c :: r, acc => if (unv (c :: r)).2 = 0 then none else unpkGo f ((c :: r).drop (unv (c :: r)).2) (acc ++ [(unv (c :: r)).1])
def unpk (l : List Int) : Option (List Nat) := unpkGo l.length l []
theorem unpkGo_step (f : Nat) (l : List Int) (acc : List Nat) (h : 0 < l.length) (hf : l.length ≤ f + 1) :
    unpkGo (f + 1) l acc = if (unv l).2 = 0 then none else unpkGo f (l.drop (unv l).2) (acc ++ [(unv l).1]) := by
  cases l with
  | nil => simp at h
  | cons c r => rfl
theorem unv_bound (l : List Int) (h0 : ∀ c ∈ l, 0 ≤ c) : (unv l).1 < 18446744073709551616 ∧ (unv l).2 ≤ l.length := by
  have := unvGo_bound l 0 0 (by decide) (by omega) h0
  unfold unv
  omega
theorem unpkGo_packs (us : List Nat) (h : ∀ u ∈ us, u < 18446744073709551616) (f : Nat) (acc : List Nat) (hf : (packs us).length ≤ f) : unpkGo f (packs us) acc = some (acc ++ us) := by
  induction us generalizing f acc with
  | nil => cases f <;> simp [packs, unpkGo]
  | cons u us ih =>
    have hp := vint_pos u
    have e : packs (u :: us) = vint u ++ packs us := by simp [packs]
    rw [e] at hf ⊢
    rw [List.length_append] at hf
    obtain ⟨g, rfl⟩ : ∃ g, f = g + 1 := ⟨f - 1, by omega⟩
    rw [unpkGo_step _ _ _ (by rw [List.length_append]; omega) (by rw [List.length_append]; omega), unv_vint u _ (h u (by simp))]
    simp only
    rw [if_neg (by omega), List.drop_left, ih (fun v hv => h v (by simp [hv])) g _ (by omega)]
    simp
theorem unpk_packs (us : List Nat) (h : ∀ u ∈ us, u < 18446744073709551616) : unpk (packs us) = some us := by
  have := unpkGo_packs us h (packs us).length [] (Nat.le_refl _)
  simpa [unpk] using this
theorem unpkGo_bound (f : Nat) (l : List Int) (acc us : List Nat) (h : unpkGo f l acc = some us) (hacc : ∀ u ∈ acc, u < 18446744073709551616) (h0 : ∀ c ∈ l, 0 ≤ c) : (∀ u ∈ us, u < 18446744073709551616) ∧ us.length ≤ acc.length + l.length := by
  induction f generalizing l acc with
  | zero =>
    cases l with
    | nil => simp [unpkGo] at h; subst h; exact ⟨hacc, by simp⟩
    | cons c r => simp [unpkGo] at h
  | succ f ih =>
    cases l with
    | nil => simp [unpkGo] at h; subst h; exact ⟨hacc, by simp⟩
    | cons c r =>
      have h' : (if (unv (c :: r)).2 = 0 then none else unpkGo f ((c :: r).drop (unv (c :: r)).2) (acc ++ [(unv (c :: r)).1])) = some us := h
      have hb := unv_bound (c :: r) h0
      by_cases hz : (unv (c :: r)).2 = 0
      · rw [if_pos hz] at h'; cases h'
      · rw [if_neg hz] at h'
        obtain ⟨h1, h2⟩ := ih _ _ h' (fun u hu => by
          rcases List.mem_append.1 hu with hu | hu
          · exact hacc u hu
          · simp at hu; subst hu; exact hb.1) (fun d hd => h0 d (List.mem_of_mem_drop hd))
        refine ⟨h1, ?_⟩
        simp only [List.length_append, List.length_drop, List.length_cons, List.length_nil] at h2 ⊢
        omega

def lenOf : Value → Nat
  | .slice _ m _ => m
  | _ => 0

theorem unpack_any (xs : List Int) (A : Option Addr) (n c : Nat) (w : World) (hl : xs.length = n) (hnc : n ≤ c) (hn : n ≤ 1099511627776) (hr : Rd w 1 A n (bytes8 xs)) (hwf : ∀ x ∈ xs, 0 ≤ x ∧ x ≤ 255) :
    Calls Tryd.prog 17 #[.slice A n c] w fun e w' => ∃ v, e = .returned (.tuple #[v, .bool (unpk xs).isSome]) ∧ w'.ownsRow w.heap.size 37 1 v ((unpk xs).getD []).length (words ((unpk xs).getD [])) ∧ Below w.heap.size w w' := by
  obtain ⟨i0, hi, hz0, hz1, hz2⟩ := info_parts info_u64
  go_enter Tryd.func17, Tryd.ntmps17
  go_wp2_with fail
  go_loopw [0, 4] (fun b o wr => ∃ (f m cc : Nat) (ys : List Int) (us : List Nat) (A' : Option Addr), b = .slice A' m cc ∧ ys.length = m ∧ m ≤ cc ∧ m ≤ f ∧ us.length + m ≤ n ∧ Rd w 1 A' m (bytes8 ys) ∧ (∀ x ∈ ys, 0 ≤ x ∧ x ≤ 255) ∧ unpk xs = unpkGo f ys us ∧ wr.ownsRow w.heap.size 37 1 o us.length (words us) ∧ Below w.heap.size w wr)
    (fun b _ _ => lenOf b)
  case atStart => exact ⟨n, n, c, xs, [], A, rfl, hl, hnc, Nat.le_refl _, by simp, hr, hwf, by rw [unpk, hl], World.ownsRow_nil _ _ _ _, Below.refl _ _⟩
  case round =>
    clear hr hwf hl
    obtain ⟨f, m, cc, ys, us, A', rfl, hl, hmc, hmf, hum, hr, hwf, hun, hown, hb⟩ := hrel
    by_cases hlt : 0 < m
    · obtain ⟨g, rfl⟩ : ∃ g, f = g + 1 := ⟨f - 1, by omega⟩
      rw [unpkGo_step g ys us (by omega) (by omega)] at hun
      obtain ⟨hb1, hb2⟩ := unv_bound ys fun x hx => (hwf x hx).1
      have hcall := unvar_any ys A' m cc wr hl (by omega) (hr.below hb) hwf
      have hcut := hr.cut (k := (unv ys).2) (cap := cc) (by omega) (by omega)
      have hwf2 : ∀ x ∈ ys.drop (unv ys).2, 0 ≤ x ∧ x ≤ 255 := fun x hx => hwf x (List.mem_of_mem_drop hx)
      rw [bytes8, ← List.map_drop] at hcut
      have hdl : (ys.drop (unv ys).2).length = m - (unv ys).2 := by rw [List.length_drop, hl]
      generalize (unv ys).2 = N at *
      generalize (unv ys).1 = U at *
      generalize ys.drop N = zs at *
      have HC := Lib.hid hcall
      have HU := Lib.hid hun
      have HR := Lib.hid hcut
      have HW := Lib.hid hwf2
      clear hcall hun hcut hwf2 hr hwf
      by_cases hz : N = 0
      · subst hz
        go_wp2_with fail
        refine HC.out.mono ?_
        rintro e w' ⟨rfl, rfl⟩
        go_wp2_with fail
        go_ret2
        have : unpk xs = none := by rw [HU.out]; simp
        rw [this]
        exact ⟨_, rfl, World.ownsRow_nil _ _ _ _, hb⟩
      · have hzb : ((N : Int) == 0) = false := by simpa using hz
        go_wp2_with fail
        refine HC.out.mono ?_
        rintro e w' ⟨rfl, rfl⟩
        go_wp2_with (at_builtin; refine app1 w.heap.size w wr _ 37 rfl _ _ 34 rfl i0 (.int .u64 0) 8 Tryd.underlying34 hi hz0 hz1 hz2 rfl (by decide) _ us.length _ rfl (Nat.le_refl _) hown hb rfl rfl (by omega) ?_)
        intro v1 w1 hown1 hb3 _
        clear hown hb
        go_wp2_with fail
        go_roundw
        case rel => exact ⟨g, m - N, cc - N, zs, us ++ [U], _, rfl, hdl, by omega, by omega, by simp only [List.length_append, List.length_cons, List.length_nil]; omega, HR.out, HW.out, by rw [HU.out, if_neg hz], by rw [words_append, List.length_append]; exact hown1, hb3⟩
        case measure => simp [lenOf]; omega
    · obtain rfl : m = 0 := by omega
      have hys : ys = [] := List.eq_nil_of_length_eq_zero hl
      subst hys
      have hz : unpk xs = some us := by rw [hun]; cases f <;> rfl
      have HZ := Lib.hid hz
      clear hz hun
      go_wp2_with fail
      go_ret2
      rw [HZ.out]
      exact ⟨_, rfl, hown, hb⟩

end Go.Proofs.YtlbbbafehhdpnaaDoor
