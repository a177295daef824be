/-
  NARROWER THAN 'FOR EVERY INPUT', by the rows' own cells (each row's printed sentence says how): LogicTruths: loops · LogicNnfs: loops · AttestFormulas: loops · LogicChecks: loops · LogicInterns: loops · LogicAtoms: loops.
  DERIVED. THE GIVEN ROWS OF THIS SEAT. 12 by the template 'for every input the law returns true; each argument reads behind the call as it read before'; 0 by the template 'total and deterministic' (their statements: YtdpnififbpoagaaTotals.lean).
  GIVEN WITH THE SEED: the statements are not yours to turn. If you find one false, say at which input.
  Laid BY PROGRAM, IN A SANDBOX (cutbox-rows.mjs): the forced cells as the released guide's own fill.sh prints them over the translation 162ed7fde079abe9… (all of the seat's roots in one cut). By AI agents, Wed Nov 11 2026. No macro, syntax, notation, axiom, sorry.
-/
import Derived.Test.YtdpnififbpoagaaChecked
import GoSem.Claim
import GoSem.ClaimJoined
import GoSem.ClaimMapViews
import Derived.JoinedTies
import Derived.KernelRfl
namespace Go.Proofs.Ytdpnififbpoagaa
/- THE CELL 'sum', in the pinned program and in every row, IS THE sha256 OF THE DUMP (.gsa) THAT YtdpnififbpoagaaProg.lean LOADS. Nothing in Lean hashes anything: it is a label: what it is worth is what the hold of that sum in a sandbox is worth. -/
noncomputable def Try.pinned : Pinned := { name := "ytdpnififbpoagaa", sum := "162ed7fde079abe9f4e7670faeed0cbf6dea030da6795359668df1fdd32f98f2", checked := Try.checked }
namespace Rows
def none {H : Type} : Left H := { results := [], args := [] }

/-- 'attestlaw10.InternPlays': WHATEVER THE INPUT: true; the input reads as it did. -/
def internPlaysSpec : ChangeSpec := { name := "internPlays", fn := fun _ => fun
  | [d] => { results := [.lit (.bool true)], args := [d] }
  | _ => none }
def internPlaysRow : OpenClaim := { program := "ytdpnififbpoagaa", sum := "162ed7fde079abe9f4e7670faeed0cbf6dea030da6795359668df1fdd32f98f2", func := "attest/attestlaw10.InternPlays", spec := "internPlays", unfollowed := true, recurses := true, plainKeys := false, apart := false }
def InternPlaysSaid : Prop := internPlaysRow.holds Try.pinned (OpenSpec.ofChange internPlaysSpec)

/-- ITS FALSE NEIGHBOUR: 'it returns false'. Refute it at one input. -/
def internPlaysWrong : ChangeSpec := { name := "internPlays", fn := fun _ => fun
  | [d] => { results := [.lit (.bool false)], args := [d] }
  | _ => none }
def InternPlaysWrongFalsely : Prop := internPlaysRow.holds Try.pinned (OpenSpec.ofChange internPlaysWrong)

/-- 'attestlaw10.InternShares': WHATEVER THE INPUT: true; the input reads as it did. -/
def internSharesSpec : ChangeSpec := { name := "internShares", fn := fun _ => fun
  | [d] => { results := [.lit (.bool true)], args := [d] }
  | _ => none }
def internSharesRow : OpenClaim := { program := "ytdpnififbpoagaa", sum := "162ed7fde079abe9f4e7670faeed0cbf6dea030da6795359668df1fdd32f98f2", func := "attest/attestlaw10.InternShares", spec := "internShares", unfollowed := true, recurses := true, plainKeys := false, apart := false }
def InternSharesSaid : Prop := internSharesRow.holds Try.pinned (OpenSpec.ofChange internSharesSpec)

/-- ITS FALSE NEIGHBOUR: 'it returns false'. Refute it at one input. -/
def internSharesWrong : ChangeSpec := { name := "internShares", fn := fun _ => fun
  | [d] => { results := [.lit (.bool false)], args := [d] }
  | _ => none }
def InternSharesWrongFalsely : Prop := internSharesRow.holds Try.pinned (OpenSpec.ofChange internSharesWrong)

/-- 'attestlaw10.InternMeans': WHATEVER THE INPUT: true; the input reads as it did. -/
def internMeansSpec : ChangeSpec := { name := "internMeans", fn := fun _ => fun
  | [d1, d2, d3] => { results := [.lit (.bool true)], args := [d1, d2, d3] }
  | _ => none }
def internMeansRow : OpenClaim := { program := "ytdpnififbpoagaa", sum := "162ed7fde079abe9f4e7670faeed0cbf6dea030da6795359668df1fdd32f98f2", func := "attest/attestlaw10.InternMeans", spec := "internMeans", unfollowed := true, recurses := true, plainKeys := false, apart := false }
def InternMeansSaid : Prop := internMeansRow.holds Try.pinned (OpenSpec.ofChange internMeansSpec)

/-- ITS FALSE NEIGHBOUR: 'it returns false'. Refute it at one input. -/
def internMeansWrong : ChangeSpec := { name := "internMeans", fn := fun _ => fun
  | [d1, d2, d3] => { results := [.lit (.bool false)], args := [d1, d2, d3] }
  | _ => none }
def InternMeansWrongFalsely : Prop := internMeansRow.holds Try.pinned (OpenSpec.ofChange internMeansWrong)

/-- 'attestlaw11.LogicDeep': WHATEVER THE INPUT: true; the input reads as it did. -/
def logicDeepSpec : ChangeSpec := { name := "logicDeep", fn := fun _ => fun
  | [d] => { results := [.lit (.bool true)], args := [d] }
  | _ => none }
def logicDeepRow : OpenClaim := { program := "ytdpnififbpoagaa", sum := "162ed7fde079abe9f4e7670faeed0cbf6dea030da6795359668df1fdd32f98f2", func := "attest/attestlaw11.LogicDeep", spec := "logicDeep", unfollowed := true, recurses := true, plainKeys := false, apart := false }
def LogicDeepSaid : Prop := logicDeepRow.holds Try.pinned (OpenSpec.ofChange logicDeepSpec)

/-- ITS FALSE NEIGHBOUR: 'it returns false'. Refute it at one input. -/
def logicDeepWrong : ChangeSpec := { name := "logicDeep", fn := fun _ => fun
  | [d] => { results := [.lit (.bool false)], args := [d] }
  | _ => none }
def LogicDeepWrongFalsely : Prop := logicDeepRow.holds Try.pinned (OpenSpec.ofChange logicDeepWrong)

/-- 'attestlaw11.LogicTruths': WHATEVER THE INPUT: true; the input reads as it did. -/
def logicTruthsSpec : ChangeSpec := { name := "logicTruths", fn := fun _ => fun
  | [d1, d2] => { results := [.lit (.bool true)], args := [d1, d2] }
  | _ => none }
def logicTruthsRow : OpenClaim := { program := "ytdpnififbpoagaa", sum := "162ed7fde079abe9f4e7670faeed0cbf6dea030da6795359668df1fdd32f98f2", func := "attest/attestlaw11.LogicTruths", spec := "logicTruths", unfollowed := true, recurses := true, loops := true, plainKeys := false, apart := false }
def LogicTruthsSaid : Prop := logicTruthsRow.holds Try.pinned (OpenSpec.ofChange logicTruthsSpec)

/-- ITS FALSE NEIGHBOUR: 'it returns false'. Refute it at one input. -/
def logicTruthsWrong : ChangeSpec := { name := "logicTruths", fn := fun _ => fun
  | [d1, d2] => { results := [.lit (.bool false)], args := [d1, d2] }
  | _ => none }
def LogicTruthsWrongFalsely : Prop := logicTruthsRow.holds Try.pinned (OpenSpec.ofChange logicTruthsWrong)

/-- 'attestlaw11.LogicNnfs': WHATEVER THE INPUT: true; the input reads as it did. -/
def logicNnfsSpec : ChangeSpec := { name := "logicNnfs", fn := fun _ => fun
  | [d1, d2] => { results := [.lit (.bool true)], args := [d1, d2] }
  | _ => none }
def logicNnfsRow : OpenClaim := { program := "ytdpnififbpoagaa", sum := "162ed7fde079abe9f4e7670faeed0cbf6dea030da6795359668df1fdd32f98f2", func := "attest/attestlaw11.LogicNnfs", spec := "logicNnfs", unfollowed := true, recurses := true, loops := true, plainKeys := false, apart := false }
def LogicNnfsSaid : Prop := logicNnfsRow.holds Try.pinned (OpenSpec.ofChange logicNnfsSpec)

/-- ITS FALSE NEIGHBOUR: 'it returns false'. Refute it at one input. -/
def logicNnfsWrong : ChangeSpec := { name := "logicNnfs", fn := fun _ => fun
  | [d1, d2] => { results := [.lit (.bool false)], args := [d1, d2] }
  | _ => none }
def LogicNnfsWrongFalsely : Prop := logicNnfsRow.holds Try.pinned (OpenSpec.ofChange logicNnfsWrong)

/-- 'attesttop.AttestFormulas': WHATEVER THE INPUT: true; the input reads as it did. -/
def attestFormulasSpec : ChangeSpec := { name := "attestFormulas", fn := fun _ => fun
  | [d1, d2, d3] => { results := [.lit (.bool true)], args := [d1, d2, d3] }
  | _ => none }
def attestFormulasRow : OpenClaim := { program := "ytdpnififbpoagaa", sum := "162ed7fde079abe9f4e7670faeed0cbf6dea030da6795359668df1fdd32f98f2", func := "attest/attesttop.AttestFormulas", spec := "attestFormulas", unfollowed := true, recurses := true, loops := true, plainKeys := false, apart := false }
def AttestFormulasSaid : Prop := attestFormulasRow.holds Try.pinned (OpenSpec.ofChange attestFormulasSpec)

/-- ITS FALSE NEIGHBOUR: 'it returns false'. Refute it at one input. -/
def attestFormulasWrong : ChangeSpec := { name := "attestFormulas", fn := fun _ => fun
  | [d1, d2, d3] => { results := [.lit (.bool false)], args := [d1, d2, d3] }
  | _ => none }
def AttestFormulasWrongFalsely : Prop := attestFormulasRow.holds Try.pinned (OpenSpec.ofChange attestFormulasWrong)

/-- 'attestlaw11.LogicChecks': WHATEVER THE INPUT: true; the input reads as it did. -/
def logicChecksSpec : ChangeSpec := { name := "logicChecks", fn := fun _ => fun
  | [d1, d2] => { results := [.lit (.bool true)], args := [d1, d2] }
  | _ => none }
def logicChecksRow : OpenClaim := { program := "ytdpnififbpoagaa", sum := "162ed7fde079abe9f4e7670faeed0cbf6dea030da6795359668df1fdd32f98f2", func := "attest/attestlaw11.LogicChecks", spec := "logicChecks", unfollowed := true, recurses := true, loops := true, plainKeys := false, apart := false }
def LogicChecksSaid : Prop := logicChecksRow.holds Try.pinned (OpenSpec.ofChange logicChecksSpec)

/-- ITS FALSE NEIGHBOUR: 'it returns false'. Refute it at one input. -/
def logicChecksWrong : ChangeSpec := { name := "logicChecks", fn := fun _ => fun
  | [d1, d2] => { results := [.lit (.bool false)], args := [d1, d2] }
  | _ => none }
def LogicChecksWrongFalsely : Prop := logicChecksRow.holds Try.pinned (OpenSpec.ofChange logicChecksWrong)

/-- 'attestlaw10.InternEvals': WHATEVER THE INPUT: true; the input reads as it did. -/
def internEvalsSpec : ChangeSpec := { name := "internEvals", fn := fun _ => fun
  | [d1, d2, d3] => { results := [.lit (.bool true)], args := [d1, d2, d3] }
  | _ => none }
def internEvalsRow : OpenClaim := { program := "ytdpnififbpoagaa", sum := "162ed7fde079abe9f4e7670faeed0cbf6dea030da6795359668df1fdd32f98f2", func := "attest/attestlaw10.InternEvals", spec := "internEvals", unfollowed := true, recurses := true, plainKeys := false, apart := false }
def InternEvalsSaid : Prop := internEvalsRow.holds Try.pinned (OpenSpec.ofChange internEvalsSpec)

/-- ITS FALSE NEIGHBOUR: 'it returns false'. Refute it at one input. -/
def internEvalsWrong : ChangeSpec := { name := "internEvals", fn := fun _ => fun
  | [d1, d2, d3] => { results := [.lit (.bool false)], args := [d1, d2, d3] }
  | _ => none }
def InternEvalsWrongFalsely : Prop := internEvalsRow.holds Try.pinned (OpenSpec.ofChange internEvalsWrong)

/-- 'attestlaw10.InternFull': WHATEVER THE INPUT: true; the input reads as it did. -/
def internFullSpec : ChangeSpec := { name := "internFull", fn := fun _ => fun
  | [d] => { results := [.lit (.bool true)], args := [d] }
  | _ => none }
def internFullRow : OpenClaim := { program := "ytdpnififbpoagaa", sum := "162ed7fde079abe9f4e7670faeed0cbf6dea030da6795359668df1fdd32f98f2", func := "attest/attestlaw10.InternFull", spec := "internFull", unfollowed := true, recurses := true, plainKeys := false, apart := false }
def InternFullSaid : Prop := internFullRow.holds Try.pinned (OpenSpec.ofChange internFullSpec)

/-- ITS FALSE NEIGHBOUR: 'it returns false'. Refute it at one input. -/
def internFullWrong : ChangeSpec := { name := "internFull", fn := fun _ => fun
  | [d] => { results := [.lit (.bool false)], args := [d] }
  | _ => none }
def InternFullWrongFalsely : Prop := internFullRow.holds Try.pinned (OpenSpec.ofChange internFullWrong)

/-- 'attestlaw11.LogicInterns': WHATEVER THE INPUT: true; the input reads as it did. -/
def logicInternsSpec : ChangeSpec := { name := "logicInterns", fn := fun _ => fun
  | [d1, d2] => { results := [.lit (.bool true)], args := [d1, d2] }
  | _ => none }
def logicInternsRow : OpenClaim := { program := "ytdpnififbpoagaa", sum := "162ed7fde079abe9f4e7670faeed0cbf6dea030da6795359668df1fdd32f98f2", func := "attest/attestlaw11.LogicInterns", spec := "logicInterns", unfollowed := true, recurses := true, loops := true, plainKeys := false, apart := false }
def LogicInternsSaid : Prop := logicInternsRow.holds Try.pinned (OpenSpec.ofChange logicInternsSpec)

/-- ITS FALSE NEIGHBOUR: 'it returns false'. Refute it at one input. -/
def logicInternsWrong : ChangeSpec := { name := "logicInterns", fn := fun _ => fun
  | [d1, d2] => { results := [.lit (.bool false)], args := [d1, d2] }
  | _ => none }
def LogicInternsWrongFalsely : Prop := logicInternsRow.holds Try.pinned (OpenSpec.ofChange logicInternsWrong)

/-- 'attestlaw11.LogicAtoms': WHATEVER THE INPUT: true; the input reads as it did. -/
def logicAtomsSpec : ChangeSpec := { name := "logicAtoms", fn := fun _ => fun
  | [d1, d2] => { results := [.lit (.bool true)], args := [d1, d2] }
  | _ => none }
def logicAtomsRow : OpenClaim := { program := "ytdpnififbpoagaa", sum := "162ed7fde079abe9f4e7670faeed0cbf6dea030da6795359668df1fdd32f98f2", func := "attest/attestlaw11.LogicAtoms", spec := "logicAtoms", unfollowed := true, recurses := true, loops := true, plainKeys := false, apart := false }
def LogicAtomsSaid : Prop := logicAtomsRow.holds Try.pinned (OpenSpec.ofChange logicAtomsSpec)

/-- ITS FALSE NEIGHBOUR: 'it returns false'. Refute it at one input. -/
def logicAtomsWrong : ChangeSpec := { name := "logicAtoms", fn := fun _ => fun
  | [d1, d2] => { results := [.lit (.bool false)], args := [d1, d2] }
  | _ => none }
def LogicAtomsWrongFalsely : Prop := logicAtomsRow.holds Try.pinned (OpenSpec.ofChange logicAtomsWrong)

/- THE SECOND FORM. 'bulk': how many values and letters a reading holds, each counted each time it is reached (what is shared counts as often as it is met; a slice's spare places count too). A statement '..UptoSaid' is the law's where the arguments, and the package variables that the reading takes, are together of bulk at most 1048576: NARROWER than '..Said'. Prove '..Said' where nothing that the law and all that it calls make is longer than what came in: it says more and counts as full. Else prove '..UptoSaid'. A law counts once. -/
mutual
def uptoBulk {H : Type} : DataW H → Nat
  | .lit (.string bytes) => bytes.length + 1
  | .lit _ => 1
  | .nil => 1
  | .ptr d => uptoBulk d + 1
  | .slice elems spare => uptoBulkAll elems + uptoBulkAll spare + 1
  | .agg parts => uptoBulkAll parts + 1
  | .iface _ d => uptoBulk d + 1
  | .map entries => uptoBulkEntries entries + 1
  | .held _ => 1
def uptoBulkAll {H : Type} : List (DataW H) → Nat
  | [] => 0
  | d :: r => uptoBulk d + uptoBulkAll r
def uptoBulkEntries {H : Type} : List (Lit × DataW H) → Nat
  | [] => 0
  | x :: r => uptoBulkEntry x + uptoBulkEntries r
def uptoBulkEntry {H : Type} : Lit × DataW H → Nat
  | (.string bytes, d) => bytes.length + uptoBulk d + 1
  | (_, d) => uptoBulk d + 1
 end
def uptoSmall : (H : Type) → List (DataW H) → Bool := fun _ ds => decide (uptoBulkAll ds ≤ 1048576)
def OpenSpec.upto (s : _root_.Go.ChangeSpec) : _root_.Go.OpenSpec := { _root_.Go.OpenSpec.ofChange s with cond := some uptoSmall }

/-- 'attestlaw10.InternPlays', WHERE WHAT IT READS IS OF BULK AT MOST 1048576: true; the input reads as it did. -/
def internPlaysUptoRow : OpenClaim := { program := "ytdpnififbpoagaa", sum := "162ed7fde079abe9f4e7670faeed0cbf6dea030da6795359668df1fdd32f98f2", func := "attest/attestlaw10.InternPlays", spec := "internPlays", unfollowed := true, recurses := true, plainKeys := false, apart := false, narrowed := true }
def InternPlaysUptoSaid : Prop := internPlaysUptoRow.holds Try.pinned (OpenSpec.upto internPlaysSpec)

/-- 'attestlaw10.InternShares', WHERE WHAT IT READS IS OF BULK AT MOST 1048576: true; the input reads as it did. -/
def internSharesUptoRow : OpenClaim := { program := "ytdpnififbpoagaa", sum := "162ed7fde079abe9f4e7670faeed0cbf6dea030da6795359668df1fdd32f98f2", func := "attest/attestlaw10.InternShares", spec := "internShares", unfollowed := true, recurses := true, plainKeys := false, apart := false, narrowed := true }
def InternSharesUptoSaid : Prop := internSharesUptoRow.holds Try.pinned (OpenSpec.upto internSharesSpec)

/-- 'attestlaw10.InternMeans', WHERE WHAT IT READS IS OF BULK AT MOST 1048576: true; the input reads as it did. -/
def internMeansUptoRow : OpenClaim := { program := "ytdpnififbpoagaa", sum := "162ed7fde079abe9f4e7670faeed0cbf6dea030da6795359668df1fdd32f98f2", func := "attest/attestlaw10.InternMeans", spec := "internMeans", unfollowed := true, recurses := true, plainKeys := false, apart := false, narrowed := true }
def InternMeansUptoSaid : Prop := internMeansUptoRow.holds Try.pinned (OpenSpec.upto internMeansSpec)

/-- 'attestlaw11.LogicDeep', WHERE WHAT IT READS IS OF BULK AT MOST 1048576: true; the input reads as it did. -/
def logicDeepUptoRow : OpenClaim := { program := "ytdpnififbpoagaa", sum := "162ed7fde079abe9f4e7670faeed0cbf6dea030da6795359668df1fdd32f98f2", func := "attest/attestlaw11.LogicDeep", spec := "logicDeep", unfollowed := true, recurses := true, plainKeys := false, apart := false, narrowed := true }
def LogicDeepUptoSaid : Prop := logicDeepUptoRow.holds Try.pinned (OpenSpec.upto logicDeepSpec)

/-- 'attestlaw11.LogicTruths', WHERE WHAT IT READS IS OF BULK AT MOST 1048576: true; the input reads as it did. -/
def logicTruthsUptoRow : OpenClaim := { program := "ytdpnififbpoagaa", sum := "162ed7fde079abe9f4e7670faeed0cbf6dea030da6795359668df1fdd32f98f2", func := "attest/attestlaw11.LogicTruths", spec := "logicTruths", unfollowed := true, recurses := true, loops := true, plainKeys := false, apart := false, narrowed := true }
def LogicTruthsUptoSaid : Prop := logicTruthsUptoRow.holds Try.pinned (OpenSpec.upto logicTruthsSpec)

/-- 'attestlaw11.LogicNnfs', WHERE WHAT IT READS IS OF BULK AT MOST 1048576: true; the input reads as it did. -/
def logicNnfsUptoRow : OpenClaim := { program := "ytdpnififbpoagaa", sum := "162ed7fde079abe9f4e7670faeed0cbf6dea030da6795359668df1fdd32f98f2", func := "attest/attestlaw11.LogicNnfs", spec := "logicNnfs", unfollowed := true, recurses := true, loops := true, plainKeys := false, apart := false, narrowed := true }
def LogicNnfsUptoSaid : Prop := logicNnfsUptoRow.holds Try.pinned (OpenSpec.upto logicNnfsSpec)

/-- 'attesttop.AttestFormulas', WHERE WHAT IT READS IS OF BULK AT MOST 1048576: true; the input reads as it did. -/
def attestFormulasUptoRow : OpenClaim := { program := "ytdpnififbpoagaa", sum := "162ed7fde079abe9f4e7670faeed0cbf6dea030da6795359668df1fdd32f98f2", func := "attest/attesttop.AttestFormulas", spec := "attestFormulas", unfollowed := true, recurses := true, loops := true, plainKeys := false, apart := false, narrowed := true }
def AttestFormulasUptoSaid : Prop := attestFormulasUptoRow.holds Try.pinned (OpenSpec.upto attestFormulasSpec)

/-- 'attestlaw11.LogicChecks', WHERE WHAT IT READS IS OF BULK AT MOST 1048576: true; the input reads as it did. -/
def logicChecksUptoRow : OpenClaim := { program := "ytdpnififbpoagaa", sum := "162ed7fde079abe9f4e7670faeed0cbf6dea030da6795359668df1fdd32f98f2", func := "attest/attestlaw11.LogicChecks", spec := "logicChecks", unfollowed := true, recurses := true, loops := true, plainKeys := false, apart := false, narrowed := true }
def LogicChecksUptoSaid : Prop := logicChecksUptoRow.holds Try.pinned (OpenSpec.upto logicChecksSpec)

/-- 'attestlaw10.InternEvals', WHERE WHAT IT READS IS OF BULK AT MOST 1048576: true; the input reads as it did. -/
def internEvalsUptoRow : OpenClaim := { program := "ytdpnififbpoagaa", sum := "162ed7fde079abe9f4e7670faeed0cbf6dea030da6795359668df1fdd32f98f2", func := "attest/attestlaw10.InternEvals", spec := "internEvals", unfollowed := true, recurses := true, plainKeys := false, apart := false, narrowed := true }
def InternEvalsUptoSaid : Prop := internEvalsUptoRow.holds Try.pinned (OpenSpec.upto internEvalsSpec)

/-- 'attestlaw10.InternFull', WHERE WHAT IT READS IS OF BULK AT MOST 1048576: true; the input reads as it did. -/
def internFullUptoRow : OpenClaim := { program := "ytdpnififbpoagaa", sum := "162ed7fde079abe9f4e7670faeed0cbf6dea030da6795359668df1fdd32f98f2", func := "attest/attestlaw10.InternFull", spec := "internFull", unfollowed := true, recurses := true, plainKeys := false, apart := false, narrowed := true }
def InternFullUptoSaid : Prop := internFullUptoRow.holds Try.pinned (OpenSpec.upto internFullSpec)

/-- 'attestlaw11.LogicInterns', WHERE WHAT IT READS IS OF BULK AT MOST 1048576: true; the input reads as it did. -/
def logicInternsUptoRow : OpenClaim := { program := "ytdpnififbpoagaa", sum := "162ed7fde079abe9f4e7670faeed0cbf6dea030da6795359668df1fdd32f98f2", func := "attest/attestlaw11.LogicInterns", spec := "logicInterns", unfollowed := true, recurses := true, loops := true, plainKeys := false, apart := false, narrowed := true }
def LogicInternsUptoSaid : Prop := logicInternsUptoRow.holds Try.pinned (OpenSpec.upto logicInternsSpec)

/-- 'attestlaw11.LogicAtoms', WHERE WHAT IT READS IS OF BULK AT MOST 1048576: true; the input reads as it did. -/
def logicAtomsUptoRow : OpenClaim := { program := "ytdpnififbpoagaa", sum := "162ed7fde079abe9f4e7670faeed0cbf6dea030da6795359668df1fdd32f98f2", func := "attest/attestlaw11.LogicAtoms", spec := "logicAtoms", unfollowed := true, recurses := true, loops := true, plainKeys := false, apart := false, narrowed := true }
def LogicAtomsUptoSaid : Prop := logicAtomsUptoRow.holds Try.pinned (OpenSpec.upto logicAtomsSpec)

end Rows
end Go.Proofs.Ytdpnififbpoagaa
