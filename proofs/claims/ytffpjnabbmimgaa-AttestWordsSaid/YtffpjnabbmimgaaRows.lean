/-
  No cell of these rows narrows 'for every input' (looked for: loops, veiled, ifaces, maps, wideKeys, modest, calm, conditions, laid).
  DERIVED. THE GIVEN ROWS OF THIS SEAT. 9 by the template 'for every input the law returns true; each argument reads behind the call as it read before'; 0 by the template 'total and deterministic' (their statements: YtffpjnabbmimgaaTotals.lean).
  GIVEN WITH THE SEED: the statements are not yours to turn. If you find one false, say at which input.
  Laid BY PROGRAM, IN A SANDBOX (cutbox-rows.mjs): the forced cells as the released guide's own fill.sh prints them over the translation d9c3f9bfd1e602b5… (all of the seat's roots in one cut). By AI agents, Wed Nov 11 2026. No macro, syntax, notation, axiom, sorry.
-/
import Derived.Test.YtffpjnabbmimgaaChecked
import GoSem.Claim
import GoSem.ClaimJoined
import GoSem.ClaimMapViews
import Derived.JoinedTies
import Derived.KernelRfl
namespace Go.Proofs.Ytffpjnabbmimgaa
/- THE CELL 'sum', in the pinned program and in every row, IS THE sha256 OF THE DUMP (.gsa) THAT YtffpjnabbmimgaaProg.lean LOADS. Nothing in Lean hashes anything: it is a label: what it is worth is what the hold of that sum in a sandbox is worth. -/
noncomputable def Try.pinned : Pinned := { name := "ytffpjnabbmimgaa", sum := "d9c3f9bfd1e602b5004514ae79c4790709e58bfe4c4946ded6204ee351e3334d", checked := Try.checked }
namespace Rows
def none {H : Type} : Left H := { results := [], args := [] }

/-- 'attestlaw01.BitsWraps': WHATEVER THE INPUT: true; the input reads as it did. -/
def bitsWrapsSpec : ChangeSpec := { name := "bitsWraps", fn := fun _ => fun
  | [d1, d2] => { results := [.lit (.bool true)], args := [d1, d2] }
  | _ => none }
def bitsWrapsRow : OpenClaim := { program := "ytffpjnabbmimgaa", sum := "d9c3f9bfd1e602b5004514ae79c4790709e58bfe4c4946ded6204ee351e3334d", func := "attest/attestlaw01.BitsWraps", spec := "bitsWraps", apart := false }
def BitsWrapsSaid : Prop := bitsWrapsRow.holds Try.pinned (OpenSpec.ofChange bitsWrapsSpec)

/-- ITS FALSE NEIGHBOUR: 'it returns false'. Refute it at one input. -/
def bitsWrapsWrong : ChangeSpec := { name := "bitsWraps", fn := fun _ => fun
  | [d1, d2] => { results := [.lit (.bool false)], args := [d1, d2] }
  | _ => none }
def BitsWrapsWrongFalsely : Prop := bitsWrapsRow.holds Try.pinned (OpenSpec.ofChange bitsWrapsWrong)

/-- 'attestlaw01.BitsZigs': WHATEVER THE INPUT: true; the input reads as it did. -/
def bitsZigsSpec : ChangeSpec := { name := "bitsZigs", fn := fun _ => fun
  | [d1, d2] => { results := [.lit (.bool true)], args := [d1, d2] }
  | _ => none }
def bitsZigsRow : OpenClaim := { program := "ytffpjnabbmimgaa", sum := "d9c3f9bfd1e602b5004514ae79c4790709e58bfe4c4946ded6204ee351e3334d", func := "attest/attestlaw01.BitsZigs", spec := "bitsZigs", apart := false }
def BitsZigsSaid : Prop := bitsZigsRow.holds Try.pinned (OpenSpec.ofChange bitsZigsSpec)

/-- ITS FALSE NEIGHBOUR: 'it returns false'. Refute it at one input. -/
def bitsZigsWrong : ChangeSpec := { name := "bitsZigs", fn := fun _ => fun
  | [d1, d2] => { results := [.lit (.bool false)], args := [d1, d2] }
  | _ => none }
def BitsZigsWrongFalsely : Prop := bitsZigsRow.holds Try.pinned (OpenSpec.ofChange bitsZigsWrong)

/-- 'attestlaw01.BitsTurns': WHATEVER THE INPUT: true; the input reads as it did. -/
def bitsTurnsSpec : ChangeSpec := { name := "bitsTurns", fn := fun _ => fun
  | [d1, d2] => { results := [.lit (.bool true)], args := [d1, d2] }
  | _ => none }
def bitsTurnsRow : OpenClaim := { program := "ytffpjnabbmimgaa", sum := "d9c3f9bfd1e602b5004514ae79c4790709e58bfe4c4946ded6204ee351e3334d", func := "attest/attestlaw01.BitsTurns", spec := "bitsTurns", apart := false }
def BitsTurnsSaid : Prop := bitsTurnsRow.holds Try.pinned (OpenSpec.ofChange bitsTurnsSpec)

/-- ITS FALSE NEIGHBOUR: 'it returns false'. Refute it at one input. -/
def bitsTurnsWrong : ChangeSpec := { name := "bitsTurns", fn := fun _ => fun
  | [d1, d2] => { results := [.lit (.bool false)], args := [d1, d2] }
  | _ => none }
def BitsTurnsWrongFalsely : Prop := bitsTurnsRow.holds Try.pinned (OpenSpec.ofChange bitsTurnsWrong)

/-- 'attestlaw01.BitsShifts': WHATEVER THE INPUT: true; the input reads as it did. -/
def bitsShiftsSpec : ChangeSpec := { name := "bitsShifts", fn := fun _ => fun
  | [d1, d2] => { results := [.lit (.bool true)], args := [d1, d2] }
  | _ => none }
def bitsShiftsRow : OpenClaim := { program := "ytffpjnabbmimgaa", sum := "d9c3f9bfd1e602b5004514ae79c4790709e58bfe4c4946ded6204ee351e3334d", func := "attest/attestlaw01.BitsShifts", spec := "bitsShifts", apart := false }
def BitsShiftsSaid : Prop := bitsShiftsRow.holds Try.pinned (OpenSpec.ofChange bitsShiftsSpec)

/-- ITS FALSE NEIGHBOUR: 'it returns false'. Refute it at one input. -/
def bitsShiftsWrong : ChangeSpec := { name := "bitsShifts", fn := fun _ => fun
  | [d1, d2] => { results := [.lit (.bool false)], args := [d1, d2] }
  | _ => none }
def BitsShiftsWrongFalsely : Prop := bitsShiftsRow.holds Try.pinned (OpenSpec.ofChange bitsShiftsWrong)

/-- 'attestlaw01.BitsFields': WHATEVER THE INPUT: true; the input reads as it did. -/
def bitsFieldsSpec : ChangeSpec := { name := "bitsFields", fn := fun _ => fun
  | [d1, d2, d3, d4] => { results := [.lit (.bool true)], args := [d1, d2, d3, d4] }
  | _ => none }
def bitsFieldsRow : OpenClaim := { program := "ytffpjnabbmimgaa", sum := "d9c3f9bfd1e602b5004514ae79c4790709e58bfe4c4946ded6204ee351e3334d", func := "attest/attestlaw01.BitsFields", spec := "bitsFields", apart := false }
def BitsFieldsSaid : Prop := bitsFieldsRow.holds Try.pinned (OpenSpec.ofChange bitsFieldsSpec)

/-- ITS FALSE NEIGHBOUR: 'it returns false'. Refute it at one input. -/
def bitsFieldsWrong : ChangeSpec := { name := "bitsFields", fn := fun _ => fun
  | [d1, d2, d3, d4] => { results := [.lit (.bool false)], args := [d1, d2, d3, d4] }
  | _ => none }
def BitsFieldsWrongFalsely : Prop := bitsFieldsRow.holds Try.pinned (OpenSpec.ofChange bitsFieldsWrong)

/-- 'attestlaw01.BitsVars': WHATEVER THE INPUT: true; the input reads as it did. -/
def bitsVarsSpec : ChangeSpec := { name := "bitsVars", fn := fun _ => fun
  | [d1, d2] => { results := [.lit (.bool true)], args := [d1, d2] }
  | _ => none }
def bitsVarsRow : OpenClaim := { program := "ytffpjnabbmimgaa", sum := "d9c3f9bfd1e602b5004514ae79c4790709e58bfe4c4946ded6204ee351e3334d", func := "attest/attestlaw01.BitsVars", spec := "bitsVars", apart := false }
def BitsVarsSaid : Prop := bitsVarsRow.holds Try.pinned (OpenSpec.ofChange bitsVarsSpec)

/-- ITS FALSE NEIGHBOUR: 'it returns false'. Refute it at one input. -/
def bitsVarsWrong : ChangeSpec := { name := "bitsVars", fn := fun _ => fun
  | [d1, d2] => { results := [.lit (.bool false)], args := [d1, d2] }
  | _ => none }
def BitsVarsWrongFalsely : Prop := bitsVarsRow.holds Try.pinned (OpenSpec.ofChange bitsVarsWrong)

/-- 'attestlaw01.BitsRanges': WHATEVER THE INPUT: true; the input reads as it did. -/
def bitsRangesSpec : ChangeSpec := { name := "bitsRanges", fn := fun _ => fun
  | [d1, d2] => { results := [.lit (.bool true)], args := [d1, d2] }
  | _ => none }
def bitsRangesRow : OpenClaim := { program := "ytffpjnabbmimgaa", sum := "d9c3f9bfd1e602b5004514ae79c4790709e58bfe4c4946ded6204ee351e3334d", func := "attest/attestlaw01.BitsRanges", spec := "bitsRanges", apart := false }
def BitsRangesSaid : Prop := bitsRangesRow.holds Try.pinned (OpenSpec.ofChange bitsRangesSpec)

/-- ITS FALSE NEIGHBOUR: 'it returns false'. Refute it at one input. -/
def bitsRangesWrong : ChangeSpec := { name := "bitsRanges", fn := fun _ => fun
  | [d1, d2] => { results := [.lit (.bool false)], args := [d1, d2] }
  | _ => none }
def BitsRangesWrongFalsely : Prop := bitsRangesRow.holds Try.pinned (OpenSpec.ofChange bitsRangesWrong)

/-- 'attestlaw01.BitsPacks': WHATEVER THE INPUT: true; the input reads as it did. -/
def bitsPacksSpec : ChangeSpec := { name := "bitsPacks", fn := fun _ => fun
  | [d1, d2] => { results := [.lit (.bool true)], args := [d1, d2] }
  | _ => none }
def bitsPacksRow : OpenClaim := { program := "ytffpjnabbmimgaa", sum := "d9c3f9bfd1e602b5004514ae79c4790709e58bfe4c4946ded6204ee351e3334d", func := "attest/attestlaw01.BitsPacks", spec := "bitsPacks", apart := false }
def BitsPacksSaid : Prop := bitsPacksRow.holds Try.pinned (OpenSpec.ofChange bitsPacksSpec)

/-- ITS FALSE NEIGHBOUR: 'it returns false'. Refute it at one input. -/
def bitsPacksWrong : ChangeSpec := { name := "bitsPacks", fn := fun _ => fun
  | [d1, d2] => { results := [.lit (.bool false)], args := [d1, d2] }
  | _ => none }
def BitsPacksWrongFalsely : Prop := bitsPacksRow.holds Try.pinned (OpenSpec.ofChange bitsPacksWrong)

/-- 'attesttop.AttestWords': WHATEVER THE INPUT: true; the input reads as it did. -/
def attestWordsSpec : ChangeSpec := { name := "attestWords", fn := fun _ => fun
  | [d1, d2, d3] => { results := [.lit (.bool true)], args := [d1, d2, d3] }
  | _ => none }
def attestWordsRow : OpenClaim := { program := "ytffpjnabbmimgaa", sum := "d9c3f9bfd1e602b5004514ae79c4790709e58bfe4c4946ded6204ee351e3334d", func := "attest/attesttop.AttestWords", spec := "attestWords", apart := false }
def AttestWordsSaid : Prop := attestWordsRow.holds Try.pinned (OpenSpec.ofChange attestWordsSpec)

/-- ITS FALSE NEIGHBOUR: 'it returns false'. Refute it at one input. -/
def attestWordsWrong : ChangeSpec := { name := "attestWords", fn := fun _ => fun
  | [d1, d2, d3] => { results := [.lit (.bool false)], args := [d1, d2, d3] }
  | _ => none }
def AttestWordsWrongFalsely : Prop := attestWordsRow.holds Try.pinned (OpenSpec.ofChange attestWordsWrong)

/- THE SECOND FORM. 'bulk': how many values and letters a reading holds, each counted each time it is reached (what is shared counts as often as it is met; a slice's spare places count too). A statement '..UptoSaid' is the law's where the arguments, and the package variables that the reading takes, are together of bulk at most 1048576: NARROWER than '..Said'. Prove '..Said' where nothing that the law and all that it calls make is longer than what came in: it says more and counts as full. Else prove '..UptoSaid'. A law counts once. -/
mutual
def uptoBulk {H : Type} : DataW H → Nat
  | .lit (.string bytes) => bytes.length + 1
  | .lit _ => 1
  | .nil => 1
  | .ptr d => uptoBulk d + 1
  | .slice elems spare => uptoBulkAll elems + uptoBulkAll spare + 1
  | .agg parts => uptoBulkAll parts + 1
  | .iface _ d => uptoBulk d + 1
  | .map entries => uptoBulkEntries entries + 1
  | .held _ => 1
def uptoBulkAll {H : Type} : List (DataW H) → Nat
  | [] => 0
  | d :: r => uptoBulk d + uptoBulkAll r
def uptoBulkEntries {H : Type} : List (Lit × DataW H) → Nat
  | [] => 0
  | x :: r => uptoBulkEntry x + uptoBulkEntries r
def uptoBulkEntry {H : Type} : Lit × DataW H → Nat
  | (.string bytes, d) => bytes.length + uptoBulk d + 1
  | (_, d) => uptoBulk d + 1
 end
def uptoSmall : (H : Type) → List (DataW H) → Bool := fun _ ds => decide (uptoBulkAll ds ≤ 1048576)
def OpenSpec.upto (s : _root_.Go.ChangeSpec) : _root_.Go.OpenSpec := { _root_.Go.OpenSpec.ofChange s with cond := some uptoSmall }

/-- 'attestlaw01.BitsWraps', WHERE WHAT IT READS IS OF BULK AT MOST 1048576: true; the input reads as it did. -/
def bitsWrapsUptoRow : OpenClaim := { program := "ytffpjnabbmimgaa", sum := "d9c3f9bfd1e602b5004514ae79c4790709e58bfe4c4946ded6204ee351e3334d", func := "attest/attestlaw01.BitsWraps", spec := "bitsWraps", apart := false, narrowed := true }
def BitsWrapsUptoSaid : Prop := bitsWrapsUptoRow.holds Try.pinned (OpenSpec.upto bitsWrapsSpec)

/-- 'attestlaw01.BitsZigs', WHERE WHAT IT READS IS OF BULK AT MOST 1048576: true; the input reads as it did. -/
def bitsZigsUptoRow : OpenClaim := { program := "ytffpjnabbmimgaa", sum := "d9c3f9bfd1e602b5004514ae79c4790709e58bfe4c4946ded6204ee351e3334d", func := "attest/attestlaw01.BitsZigs", spec := "bitsZigs", apart := false, narrowed := true }
def BitsZigsUptoSaid : Prop := bitsZigsUptoRow.holds Try.pinned (OpenSpec.upto bitsZigsSpec)

/-- 'attestlaw01.BitsTurns', WHERE WHAT IT READS IS OF BULK AT MOST 1048576: true; the input reads as it did. -/
def bitsTurnsUptoRow : OpenClaim := { program := "ytffpjnabbmimgaa", sum := "d9c3f9bfd1e602b5004514ae79c4790709e58bfe4c4946ded6204ee351e3334d", func := "attest/attestlaw01.BitsTurns", spec := "bitsTurns", apart := false, narrowed := true }
def BitsTurnsUptoSaid : Prop := bitsTurnsUptoRow.holds Try.pinned (OpenSpec.upto bitsTurnsSpec)

/-- 'attestlaw01.BitsShifts', WHERE WHAT IT READS IS OF BULK AT MOST 1048576: true; the input reads as it did. -/
def bitsShiftsUptoRow : OpenClaim := { program := "ytffpjnabbmimgaa", sum := "d9c3f9bfd1e602b5004514ae79c4790709e58bfe4c4946ded6204ee351e3334d", func := "attest/attestlaw01.BitsShifts", spec := "bitsShifts", apart := false, narrowed := true }
def BitsShiftsUptoSaid : Prop := bitsShiftsUptoRow.holds Try.pinned (OpenSpec.upto bitsShiftsSpec)

/-- 'attestlaw01.BitsFields', WHERE WHAT IT READS IS OF BULK AT MOST 1048576: true; the input reads as it did. -/
def bitsFieldsUptoRow : OpenClaim := { program := "ytffpjnabbmimgaa", sum := "d9c3f9bfd1e602b5004514ae79c4790709e58bfe4c4946ded6204ee351e3334d", func := "attest/attestlaw01.BitsFields", spec := "bitsFields", apart := false, narrowed := true }
def BitsFieldsUptoSaid : Prop := bitsFieldsUptoRow.holds Try.pinned (OpenSpec.upto bitsFieldsSpec)

/-- 'attestlaw01.BitsVars', WHERE WHAT IT READS IS OF BULK AT MOST 1048576: true; the input reads as it did. -/
def bitsVarsUptoRow : OpenClaim := { program := "ytffpjnabbmimgaa", sum := "d9c3f9bfd1e602b5004514ae79c4790709e58bfe4c4946ded6204ee351e3334d", func := "attest/attestlaw01.BitsVars", spec := "bitsVars", apart := false, narrowed := true }
def BitsVarsUptoSaid : Prop := bitsVarsUptoRow.holds Try.pinned (OpenSpec.upto bitsVarsSpec)

/-- 'attestlaw01.BitsRanges', WHERE WHAT IT READS IS OF BULK AT MOST 1048576: true; the input reads as it did. -/
def bitsRangesUptoRow : OpenClaim := { program := "ytffpjnabbmimgaa", sum := "d9c3f9bfd1e602b5004514ae79c4790709e58bfe4c4946ded6204ee351e3334d", func := "attest/attestlaw01.BitsRanges", spec := "bitsRanges", apart := false, narrowed := true }
def BitsRangesUptoSaid : Prop := bitsRangesUptoRow.holds Try.pinned (OpenSpec.upto bitsRangesSpec)

/-- 'attestlaw01.BitsPacks', WHERE WHAT IT READS IS OF BULK AT MOST 1048576: true; the input reads as it did. -/
def bitsPacksUptoRow : OpenClaim := { program := "ytffpjnabbmimgaa", sum := "d9c3f9bfd1e602b5004514ae79c4790709e58bfe4c4946ded6204ee351e3334d", func := "attest/attestlaw01.BitsPacks", spec := "bitsPacks", apart := false, narrowed := true }
def BitsPacksUptoSaid : Prop := bitsPacksUptoRow.holds Try.pinned (OpenSpec.upto bitsPacksSpec)

/-- 'attesttop.AttestWords', WHERE WHAT IT READS IS OF BULK AT MOST 1048576: true; the input reads as it did. -/
def attestWordsUptoRow : OpenClaim := { program := "ytffpjnabbmimgaa", sum := "d9c3f9bfd1e602b5004514ae79c4790709e58bfe4c4946ded6204ee351e3334d", func := "attest/attesttop.AttestWords", spec := "attestWords", apart := false, narrowed := true }
def AttestWordsUptoSaid : Prop := attestWordsUptoRow.holds Try.pinned (OpenSpec.upto attestWordsSpec)

end Rows
end Go.Proofs.Ytffpjnabbmimgaa
