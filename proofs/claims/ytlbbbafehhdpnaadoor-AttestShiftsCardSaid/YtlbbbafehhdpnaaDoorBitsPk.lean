/- Contract: Pack. -/
import Derived.Test.YtlbbbafehhdpnaaDoorBitsMore
import Derived.Test.YtlbbbafehhdpnaaDoorMem2
namespace Go.Proofs.YtlbbbafehhdpnaaDoor
open Go.RowKit

theorem info_u64 : (Tryd.prog.info? 37).map (fun i => (i.zero, i.size, i.bytes)) = some (some (.int .u64 0), 1, 8) := by kernel_rfl
def words (l : List Nat) : List Value := l.map fun (u : Nat) => Value.int .u64 (u : Int)
theorem words_append (a b : List Nat) : words (a ++ b) = words a ++ words b := by simp [words]
theorem words_length (l : List Nat) : (words l).length = l.length := by simp [words]
theorem words_get (l : List Nat) (k : Nat) (h : k < l.length) : (words l)[k]? = some (.int .u64 (l[k] : Nat)) := by simp [words, h]

def packs (us : List Nat) : List Int := us.flatMap vint
theorem packs_length (us : List Nat) (h : ∀ u ∈ us, u < 18446744073709551616) : (packs us).length ≤ 10 * us.length := by
  induction us with
  | nil => simp [packs]
  | cons u us ih =>
    have h1 := vint_length64 u (h u (by simp))
    have h2 := ih fun v hv => h v (by simp [hv])
    simp only [packs, List.flatMap_cons, List.length_append, List.length_cons] at *
    omega
theorem packs_snoc (us : List Nat) (k : Nat) (h : k < us.length) : packs (us.take (k + 1)) = packs (us.take k) ++ vint us[k] := by
  rw [packs, packs, List.take_succ_eq_append_getElem h, List.flatMap_append]
  simp only [List.flatMap_cons, List.flatMap_nil, List.append_nil]

theorem pack_any (us : List Nat) (A : Option Addr) (n c : Nat) (w : World) (hl : us.length = n) (hn : n ≤ 1099511627776) (hr : Rd w 1 A n (words us)) (hwf : ∀ u ∈ us, u < 18446744073709551616) :
    Calls Tryd.prog 18 #[.slice A n c] w fun e w' => ∃ v, e = .returned v ∧ w'.ownsRow w.heap.size 5 1 v (packs us).length (bytes8 (packs us)) ∧ Below w.heap.size w w' := by
  go_enter Tryd.func18, Tryd.ntmps18
  go_wp2_with fail
  go_loopw [3, 8] (fun b i wr => ∃ k : Nat, k ≤ n ∧ i = .int .i64 k ∧ wr.ownsRow w.heap.size 5 1 b (packs (us.take k)).length (bytes8 (packs (us.take k))) ∧ Below w.heap.size w wr) (fun _ i _ => n - (intOf i).toNat)
  case atStart => exact ⟨0, Nat.zero_le _, rfl, World.ownsRow_nil _ _ _ _, Below.refl _ _⟩
  case round =>
    obtain ⟨k, hk, rfl, hown, hb⟩ := hrel
    by_cases hlt : k < n
    · obtain ⟨b1, o1, u1, rfl, hu1, hc1⟩ := (hr.below hb).at_ hlt
      rw [words_get us k (by omega)] at hu1
      injection hu1 with hu1
      have hx := hwf us[k] (List.getElem_mem _)
      have hs := packs_snoc us k (by omega)
      have hlen := packs_length (us.take k) (fun u hu => hwf u (List.mem_of_mem_take hu))
      rw [List.length_take] at hlen
      generalize us[k] = X at *
      subst hu1
      have hm := more_any w.heap.size _ _ (packs (us.take k)) X wr hx hown hb.size (by omega)
      have HM := Lib.hid hm
      have HS := Lib.hid hs
      clear hm hs hown hr hwf
      go_wp2_with fail
      refine HM.out.mono ?_
      rintro e w1 ⟨v1, rfl, hown1, hb1⟩
      go_wp2_with fail
      go_roundw
      case rel =>
        refine ⟨k + 1, by omega, by go_num, ?_, hb.trans hb1⟩
        rw [HS.out, List.length_append]
        exact hown1
      case measure => simp [intOf]; omega
    · obtain rfl : k = n := by omega
      rw [List.take_of_length_le (by omega)] at hown
      go_wp2_with fail
      go_ret
      exact ⟨_, rfl, hown, hb⟩
end Go.Proofs.YtlbbbafehhdpnaaDoor
