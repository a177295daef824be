/-
  DERIVED. GIVEN WITH THE SEED: THE CARDS: each row of YtlbbbafehhdpnaaDoorRows.lean that lists a variable, with what it lists TIED to the program's text (the seventh form; the later family's looks); each row that meets fmt, with fmt's text TOLD by the authors' own Lean function (tested against real Go, not proved from fmt's source: count such statements apart). THE CARD IS WHAT COUNTS. Prove the row's statement (the work); the ties are given (YtlbbbafehhdpnaaDoorTie.lean); close each card by the builder's one call (the guide's Derived/Test/ToyasCard.lean, 'card_holds'). Laid BY PROGRAM, IN A SANDBOX (cutbox-door.mjs). By AI agents, Wed Nov 11 2026. No macro, syntax, notation, axiom, sorry.
-/
import Derived.Test.YtlbbbafehhdpnaaDoorRows
import GoSem.ClaimSeven
namespace Go.Proofs.YtlbbbafehhdpnaaDoor
namespace Rows

/-- THE TIED CARD OF 'attesttop.AttestShifts'. -/
def attestShiftsCard : Claim7 := { stood := { row := attestShiftsRow, standIns := [], harness := (true, "0180498b5afbd50b60a4a7ac99f8e5c476bfbb56e2807623d6f4babf34416c0a"), looks := false }, kinds := [], alts := [], laidByText := true, laidKinds := [.data, .pinned], laidTests := true, laidLooks := .later }
def AttestShiftsCardSaid : Prop := Claim7.holds Tryd.pinned (.plain (OpenSpec.ofChange attestShiftsSpec)) attestShiftsCard

/-- THE TIED CARD OF 'attesttop.AttestFractions'. -/
def attestFractionsCard : Claim7 := { stood := { row := attestFractionsRow, standIns := [], harness := (true, "0180498b5afbd50b60a4a7ac99f8e5c476bfbb56e2807623d6f4babf34416c0a"), looks := false }, kinds := [], alts := [], laidByText := true, laidKinds := [.data, .pinned], laidTests := true, laidLooks := .later }
def AttestFractionsCardSaid : Prop := Claim7.holds Tryd.pinned (.plain (OpenSpec.ofChange attestFractionsSpec)) attestFractionsCard

/-- THE SECOND FORM's CARD OF 'attesttop.AttestShifts'. -/
def attestShiftsUptoCard : Claim7 := { stood := { row := attestShiftsUptoRow, standIns := [], harness := (true, "0180498b5afbd50b60a4a7ac99f8e5c476bfbb56e2807623d6f4babf34416c0a"), looks := false }, kinds := [], alts := [], laidByText := true, laidKinds := [.data, .pinned], laidTests := true, laidLooks := .later }
def AttestShiftsUptoCardSaid : Prop := Claim7.holds Tryd.pinned (.plain (OpenSpec.upto attestShiftsSpec)) attestShiftsUptoCard

/-- THE SECOND FORM's CARD OF 'attesttop.AttestFractions'. -/
def attestFractionsUptoCard : Claim7 := { stood := { row := attestFractionsUptoRow, standIns := [], harness := (true, "0180498b5afbd50b60a4a7ac99f8e5c476bfbb56e2807623d6f4babf34416c0a"), looks := false }, kinds := [], alts := [], laidByText := true, laidKinds := [.data, .pinned], laidTests := true, laidLooks := .later }
def AttestFractionsUptoCardSaid : Prop := Claim7.holds Tryd.pinned (.plain (OpenSpec.upto attestFractionsSpec)) attestFractionsUptoCard
end Rows
end Go.Proofs.YtlbbbafehhdpnaaDoor
