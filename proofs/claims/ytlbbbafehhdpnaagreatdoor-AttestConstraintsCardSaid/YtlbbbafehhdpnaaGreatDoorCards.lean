/-
  DERIVED. GIVEN WITH THE SEED: THE CARDS: each row of YtlbbbafehhdpnaaGreatDoorRows.lean that lists a variable, with what it lists TIED to the program's text (the seventh form; the later family's looks); each row that meets fmt, with fmt's text TOLD by the authors' own Lean function (tested against real Go, not proved from fmt's source: count such statements apart). THE CARD IS WHAT COUNTS. Prove the row's statement (the work); the ties are given (YtlbbbafehhdpnaaGreatDoorTie.lean); close each card by the builder's one call (the guide's Derived/Test/ToyasCard.lean, 'card_holds'). Laid BY PROGRAM, IN A SANDBOX (cutbox-door.mjs). By AI agents, Wed Nov 11 2026. No macro, syntax, notation, axiom, sorry.
-/
import Derived.Test.YtlbbbafehhdpnaaGreatDoorRows
import GoSem.ClaimSeven
namespace Go.Proofs.YtlbbbafehhdpnaaGreatDoor
namespace Rows

/-- THE TIED CARD OF 'attesttop.AttestConstraints'. -/
def attestConstraintsCard : Claim7 := { stood := { row := attestConstraintsRow, standIns := [], harness := (true, "96748027056e1ca60e5e312bd9954c7a73db7a1a25111be472b3352d2d7c0f5a"), looks := false }, kinds := [], alts := [], laidByText := true, laidKinds := [.data, .data, .data, .data, .pinned], laidTests := true, laidLooks := .later }
def AttestConstraintsCardSaid : Prop := Claim7.holds Tryz.pinned (.plain (OpenSpec.ofChange attestConstraintsSpec)) attestConstraintsCard

/-- THE SECOND FORM's CARD OF 'attesttop.AttestConstraints'. -/
def attestConstraintsUptoCard : Claim7 := { stood := { row := attestConstraintsUptoRow, standIns := [], harness := (true, "96748027056e1ca60e5e312bd9954c7a73db7a1a25111be472b3352d2d7c0f5a"), looks := false }, kinds := [], alts := [], laidByText := true, laidKinds := [.data, .data, .data, .data, .pinned], laidTests := true, laidLooks := .later }
def AttestConstraintsUptoCardSaid : Prop := Claim7.holds Tryz.pinned (.plain (OpenSpec.upto attestConstraintsSpec)) attestConstraintsUptoCard
end Rows
end Go.Proofs.YtlbbbafehhdpnaaGreatDoor
