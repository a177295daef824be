/- The string of a row of bytes. -/
import Derived.Test.YtlbbbafehhdpnaaDoorBitsMore
import Derived.Laws.IdiomStrings
namespace Go.Proofs.YtlbbbafehhdpnaaDoor
open Go.RowKit
set_option linter.unusedVariables false
set_option linter.unusedSimpArgs false

def strOf (xs : List Int) : ByteArray := ⟨(xs.map fun x => UInt8.ofNat x.toNat).toArray⟩
theorem run_str {P : Program} {w : World} {A : Option Addr} {n c : Nat} {xs : List Int} (src dst e : TypeId) (hs : P.underlying src = some (.slice e)) (he : P.underlying e = some (.int .u8)) (hd : P.underlying dst = some .string)
    (hl : xs.length = n) (hr : Rd w 1 A n (bytes8 xs)) (hb : ∀ x ∈ xs, 0 ≤ x ∧ x ≤ 255) : (convert src dst (.slice A n c)).run P w = .ok (.string (strOf xs)) w := by
  rcases Nat.eq_zero_or_pos n with h0 | h0
  · subst h0
    obtain rfl : xs = [] := List.eq_nil_of_length_eq_zero hl
    cases A with
    | none => rw [run_convert_bytes_string w src dst e none 0 c hs he hd]; rfl
    | some a => exact run_convert_bytes_back w src dst e a c [] hs he hd (fun j hj => by simp at hj)
  · obtain ⟨b, off, rfl, hc⟩ := hr.2 h0
    have h1 := run_convert_bytes_back (P := P) w src dst e ⟨b, off, none⟩ c (xs.map fun x => UInt8.ofNat x.toNat) hs he hd (fun j hj => by
      have hj' : j < xs.length := by simpa using hj
      have hm := hb xs[j] (List.getElem_mem _)
      rw [addr_add_none, hc j _ (bytes8_get xs j hj')]
      simp only [List.getElem_map]
      congr 2
      rw [UInt8.toNat_ofNat']
      omega)
    rw [List.length_map, hl] at h1
    exact h1
end Go.Proofs.YtlbbbafehhdpnaaDoor
