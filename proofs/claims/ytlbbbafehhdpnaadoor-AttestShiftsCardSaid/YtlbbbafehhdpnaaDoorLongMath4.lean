/- Long division of limbs: what take and give leave is the quotient and the rest. No program in sight. -/
import Derived.Test.YtlbbbafehhdpnaaDoorLongMath3
namespace Go.Proofs.YtlbbbafehhdpnaaDoor
set_option linter.unusedVariables false
set_option linter.unusedSimpArgs false

theorem step_ok (U V : List Nat) (g : Nat) (hU : small U) (hV : small V) (hl : U.length = V.length + 1) (hVp : 0 < lv V) (hg : g < 4294967296) (h1 : lv U / lv V ≤ g) (h2 : g ≤ lv U / lv V + 1) :
    (takeBelow g V U = false → g = lv U / lv V ∧ takeRow g V U = digs (V.length + 1) (lv U % lv V)) ∧ (takeBelow g V U = true → g = lv U / lv V + 1 ∧ giveRow V (takeRow g V U) = digs (V.length + 1) (lv U % lv V)) := by
  have hv := takeRow_val g V U hg hV hU hl
  have htl := takeRow_len g V U hg hV hU (by omega)
  have hts := takeRow_small g V U hg hV hU (by omega)
  have hB := lv_lt U hU
  have hL := lv_lt _ hts
  rw [htl, hl] at hL
  rw [hl] at hB
  have hR : lv U % lv V < 2 ^ (32 * (V.length + 1)) := Nat.lt_of_le_of_lt (Nat.mod_le _ _) hB
  have hq := quot_of (lv U) (lv V) g _ (lv (takeRow g V U)) _ (if takeBelow g V U = true then 1 else 0) hVp rfl h1 h2 hB hL hv (by split <;> omega)
  constructor
  · intro hb
    obtain ⟨q1, q2⟩ := hq.1 (by rw [hb]; rfl)
    exact ⟨q1, lv_inj hts (digs_small _ _) (by rw [digs_len, htl, hl]) (by rw [lv_digs _ _ hR, q2])⟩
  · intro hb
    obtain ⟨q1, q2⟩ := hq.2 (by rw [hb]; rfl)
    refine ⟨q1, lv_inj (giveRow_small V _ hV hts (by omega)) (digs_small _ _) (by rw [digs_len, giveRow_len V _ hV hts (by omega), htl, hl]) ?_⟩
    have hgv := giveRow_val V (takeRow g V U) hV hts (by omega)
    have hgb := lv_lt _ (giveRow_small V _ hV hts (by omega))
    rw [giveRow_len V _ hV hts (by omega), htl, hl] at hgb
    rw [lv_digs _ _ hR]
    rw [q2] at hgv
    generalize lv (giveRow V (takeRow g V U)) = G at *
    generalize ((takeRow g V U).getD V.length 0 + (giveSt V (takeRow g V U) V.length).2) / 4294967296 = c at *
    generalize 2 ^ (32 * (V.length + 1)) = B at *
    generalize lv U % lv V = R at *
    have e := congrArg (· % B) hgv
    simpa [Nat.add_mul_mod_self_left, Nat.mod_eq_of_lt hgb, Nat.mod_eq_of_lt hR] using e
end Go.Proofs.YtlbbbafehhdpnaaDoor
