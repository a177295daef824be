/-
  NARROWER THAN 'FOR EVERY INPUT', by the rows' own cells (each row's printed sentence says how): CnfClauses: loops · CnfExtends: loops · CnfMeans: loops.
  DERIVED. THE GIVEN ROWS OF THIS SEAT. 10 by the template 'for every input the law returns true; each argument reads behind the call as it read before'; 0 by the template 'total and deterministic' (their statements: YtbcabcdgblmnkaaTotals.lean).
  GIVEN WITH THE SEED: the statements are not yours to turn. If you find one false, say at which input.
  Laid BY PROGRAM, IN A SANDBOX (cutbox-rows.mjs): the forced cells as the released guide's own fill.sh prints them over the translation 5e702f0af29241db… (all of the seat's roots in one cut). By AI agents, Wed Nov 11 2026. No macro, syntax, notation, axiom, sorry.
-/
import Derived.Test.YtbcabcdgblmnkaaChecked
import GoSem.Claim
import GoSem.ClaimJoined
import GoSem.ClaimMapViews
import Derived.JoinedTies
import Derived.KernelRfl
namespace Go.Proofs.Ytbcabcdgblmnkaa
/- THE CELL 'sum', in the pinned program and in every row, IS THE sha256 OF THE DUMP (.gsa) THAT YtbcabcdgblmnkaaProg.lean LOADS. Nothing in Lean hashes anything: it is a label: what it is worth is what the hold of that sum in a sandbox is worth. -/
noncomputable def Try.pinned : Pinned := { name := "ytbcabcdgblmnkaa", sum := "5e702f0af29241db77e20b05d375caa9b241daead3185b8030f6b331a5e85ff5", checked := Try.checked }
namespace Rows
def none {H : Type} : Left H := { results := [], args := [] }

/-- 'attestlaw13.ClauseResolves': WHATEVER THE INPUT: true; the input reads as it did. -/
def clauseResolvesSpec : ChangeSpec := { name := "clauseResolves", fn := fun _ => fun
  | [d1, d2, d3] => { results := [.lit (.bool true)], args := [d1, d2, d3] }
  | _ => none }
def clauseResolvesRow : OpenClaim := { program := "ytbcabcdgblmnkaa", sum := "5e702f0af29241db77e20b05d375caa9b241daead3185b8030f6b331a5e85ff5", func := "attest/attestlaw13.ClauseResolves", spec := "clauseResolves", unfollowed := true, recurses := true, plainKeys := false, apart := false }
def ClauseResolvesSaid : Prop := clauseResolvesRow.holds Try.pinned (OpenSpec.ofChange clauseResolvesSpec)

/-- ITS FALSE NEIGHBOUR: 'it returns false'. Refute it at one input. -/
def clauseResolvesWrong : ChangeSpec := { name := "clauseResolves", fn := fun _ => fun
  | [d1, d2, d3] => { results := [.lit (.bool false)], args := [d1, d2, d3] }
  | _ => none }
def ClauseResolvesWrongFalsely : Prop := clauseResolvesRow.holds Try.pinned (OpenSpec.ofChange clauseResolvesWrong)

/-- 'attestlaw13.ClauseLends': WHATEVER THE INPUT: true; the input reads as it did. -/
def clauseLendsSpec : ChangeSpec := { name := "clauseLends", fn := fun _ => fun
  | [d1, d2] => { results := [.lit (.bool true)], args := [d1, d2] }
  | _ => none }
def clauseLendsRow : OpenClaim := { program := "ytbcabcdgblmnkaa", sum := "5e702f0af29241db77e20b05d375caa9b241daead3185b8030f6b331a5e85ff5", func := "attest/attestlaw13.ClauseLends", spec := "clauseLends", unfollowed := true, recurses := true, plainKeys := false, apart := false }
def ClauseLendsSaid : Prop := clauseLendsRow.holds Try.pinned (OpenSpec.ofChange clauseLendsSpec)

/-- ITS FALSE NEIGHBOUR: 'it returns false'. Refute it at one input. -/
def clauseLendsWrong : ChangeSpec := { name := "clauseLends", fn := fun _ => fun
  | [d1, d2] => { results := [.lit (.bool false)], args := [d1, d2] }
  | _ => none }
def ClauseLendsWrongFalsely : Prop := clauseLendsRow.holds Try.pinned (OpenSpec.ofChange clauseLendsWrong)

/-- 'attestlaw13.ClauseHolds': WHATEVER THE INPUT: true; the input reads as it did. -/
def clauseHoldsSpec : ChangeSpec := { name := "clauseHolds", fn := fun _ => fun
  | [d1, d2] => { results := [.lit (.bool true)], args := [d1, d2] }
  | _ => none }
def clauseHoldsRow : OpenClaim := { program := "ytbcabcdgblmnkaa", sum := "5e702f0af29241db77e20b05d375caa9b241daead3185b8030f6b331a5e85ff5", func := "attest/attestlaw13.ClauseHolds", spec := "clauseHolds", unfollowed := true, recurses := true, plainKeys := false, apart := false }
def ClauseHoldsSaid : Prop := clauseHoldsRow.holds Try.pinned (OpenSpec.ofChange clauseHoldsSpec)

/-- ITS FALSE NEIGHBOUR: 'it returns false'. Refute it at one input. -/
def clauseHoldsWrong : ChangeSpec := { name := "clauseHolds", fn := fun _ => fun
  | [d1, d2] => { results := [.lit (.bool false)], args := [d1, d2] }
  | _ => none }
def ClauseHoldsWrongFalsely : Prop := clauseHoldsRow.holds Try.pinned (OpenSpec.ofChange clauseHoldsWrong)

/-- 'attestlaw13.ClauseChains': WHATEVER THE INPUT: true; the input reads as it did. -/
def clauseChainsSpec : ChangeSpec := { name := "clauseChains", fn := fun _ => fun
  | [d1, d2] => { results := [.lit (.bool true)], args := [d1, d2] }
  | _ => none }
def clauseChainsRow : OpenClaim := { program := "ytbcabcdgblmnkaa", sum := "5e702f0af29241db77e20b05d375caa9b241daead3185b8030f6b331a5e85ff5", func := "attest/attestlaw13.ClauseChains", spec := "clauseChains", unfollowed := true, recurses := true, plainKeys := false, apart := false }
def ClauseChainsSaid : Prop := clauseChainsRow.holds Try.pinned (OpenSpec.ofChange clauseChainsSpec)

/-- ITS FALSE NEIGHBOUR: 'it returns false'. Refute it at one input. -/
def clauseChainsWrong : ChangeSpec := { name := "clauseChains", fn := fun _ => fun
  | [d1, d2] => { results := [.lit (.bool false)], args := [d1, d2] }
  | _ => none }
def ClauseChainsWrongFalsely : Prop := clauseChainsRow.holds Try.pinned (OpenSpec.ofChange clauseChainsWrong)

/-- 'attestlaw13.ClauseCanons': WHATEVER THE INPUT: true; the input reads as it did. -/
def clauseCanonsSpec : ChangeSpec := { name := "clauseCanons", fn := fun _ => fun
  | [d1, d2] => { results := [.lit (.bool true)], args := [d1, d2] }
  | _ => none }
def clauseCanonsRow : OpenClaim := { program := "ytbcabcdgblmnkaa", sum := "5e702f0af29241db77e20b05d375caa9b241daead3185b8030f6b331a5e85ff5", func := "attest/attestlaw13.ClauseCanons", spec := "clauseCanons", unfollowed := true, recurses := true, plainKeys := false, apart := false }
def ClauseCanonsSaid : Prop := clauseCanonsRow.holds Try.pinned (OpenSpec.ofChange clauseCanonsSpec)

/-- ITS FALSE NEIGHBOUR: 'it returns false'. Refute it at one input. -/
def clauseCanonsWrong : ChangeSpec := { name := "clauseCanons", fn := fun _ => fun
  | [d1, d2] => { results := [.lit (.bool false)], args := [d1, d2] }
  | _ => none }
def ClauseCanonsWrongFalsely : Prop := clauseCanonsRow.holds Try.pinned (OpenSpec.ofChange clauseCanonsWrong)

/-- 'attestlaw13.ClauseKeys': WHATEVER THE INPUT: true; the input reads as it did. -/
def clauseKeysSpec : ChangeSpec := { name := "clauseKeys", fn := fun _ => fun
  | [d1, d2] => { results := [.lit (.bool true)], args := [d1, d2] }
  | _ => none }
def clauseKeysRow : OpenClaim := { program := "ytbcabcdgblmnkaa", sum := "5e702f0af29241db77e20b05d375caa9b241daead3185b8030f6b331a5e85ff5", func := "attest/attestlaw13.ClauseKeys", spec := "clauseKeys", unfollowed := true, recurses := true, plainKeys := false, apart := false }
def ClauseKeysSaid : Prop := clauseKeysRow.holds Try.pinned (OpenSpec.ofChange clauseKeysSpec)

/-- ITS FALSE NEIGHBOUR: 'it returns false'. Refute it at one input. -/
def clauseKeysWrong : ChangeSpec := { name := "clauseKeys", fn := fun _ => fun
  | [d1, d2] => { results := [.lit (.bool false)], args := [d1, d2] }
  | _ => none }
def ClauseKeysWrongFalsely : Prop := clauseKeysRow.holds Try.pinned (OpenSpec.ofChange clauseKeysWrong)

/-- 'attestlaw13.ClausePlaces': WHATEVER THE INPUT: true; the input reads as it did. -/
def clausePlacesSpec : ChangeSpec := { name := "clausePlaces", fn := fun _ => fun
  | [d] => { results := [.lit (.bool true)], args := [d] }
  | _ => none }
def clausePlacesRow : OpenClaim := { program := "ytbcabcdgblmnkaa", sum := "5e702f0af29241db77e20b05d375caa9b241daead3185b8030f6b331a5e85ff5", func := "attest/attestlaw13.ClausePlaces", spec := "clausePlaces", unfollowed := true, recurses := true, plainKeys := false, apart := false }
def ClausePlacesSaid : Prop := clausePlacesRow.holds Try.pinned (OpenSpec.ofChange clausePlacesSpec)

/-- ITS FALSE NEIGHBOUR: 'it returns false'. Refute it at one input. -/
def clausePlacesWrong : ChangeSpec := { name := "clausePlaces", fn := fun _ => fun
  | [d] => { results := [.lit (.bool false)], args := [d] }
  | _ => none }
def ClausePlacesWrongFalsely : Prop := clausePlacesRow.holds Try.pinned (OpenSpec.ofChange clausePlacesWrong)

/-- 'attestlaw18.CnfClauses': WHATEVER THE INPUT: true; the input reads as it did. -/
def cnfClausesSpec : ChangeSpec := { name := "cnfClauses", fn := fun _ => fun
  | [d1, d2] => { results := [.lit (.bool true)], args := [d1, d2] }
  | _ => none }
def cnfClausesRow : OpenClaim := { program := "ytbcabcdgblmnkaa", sum := "5e702f0af29241db77e20b05d375caa9b241daead3185b8030f6b331a5e85ff5", func := "attest/attestlaw18.CnfClauses", spec := "cnfClauses", unfollowed := true, recurses := true, loops := true, plainKeys := false, apart := false }
def CnfClausesSaid : Prop := cnfClausesRow.holds Try.pinned (OpenSpec.ofChange cnfClausesSpec)

/-- ITS FALSE NEIGHBOUR: 'it returns false'. Refute it at one input. -/
def cnfClausesWrong : ChangeSpec := { name := "cnfClauses", fn := fun _ => fun
  | [d1, d2] => { results := [.lit (.bool false)], args := [d1, d2] }
  | _ => none }
def CnfClausesWrongFalsely : Prop := cnfClausesRow.holds Try.pinned (OpenSpec.ofChange cnfClausesWrong)

/-- 'attestlaw18.CnfExtends': WHATEVER THE INPUT: true; the input reads as it did. -/
def cnfExtendsSpec : ChangeSpec := { name := "cnfExtends", fn := fun _ => fun
  | [d1, d2] => { results := [.lit (.bool true)], args := [d1, d2] }
  | _ => none }
def cnfExtendsRow : OpenClaim := { program := "ytbcabcdgblmnkaa", sum := "5e702f0af29241db77e20b05d375caa9b241daead3185b8030f6b331a5e85ff5", func := "attest/attestlaw18.CnfExtends", spec := "cnfExtends", unfollowed := true, recurses := true, loops := true, plainKeys := false, apart := false }
def CnfExtendsSaid : Prop := cnfExtendsRow.holds Try.pinned (OpenSpec.ofChange cnfExtendsSpec)

/-- ITS FALSE NEIGHBOUR: 'it returns false'. Refute it at one input. -/
def cnfExtendsWrong : ChangeSpec := { name := "cnfExtends", fn := fun _ => fun
  | [d1, d2] => { results := [.lit (.bool false)], args := [d1, d2] }
  | _ => none }
def CnfExtendsWrongFalsely : Prop := cnfExtendsRow.holds Try.pinned (OpenSpec.ofChange cnfExtendsWrong)

/-- 'attestlaw18.CnfMeans': WHATEVER THE INPUT: true; the input reads as it did. -/
def cnfMeansSpec : ChangeSpec := { name := "cnfMeans", fn := fun _ => fun
  | [d1, d2, d3] => { results := [.lit (.bool true)], args := [d1, d2, d3] }
  | _ => none }
def cnfMeansRow : OpenClaim := { program := "ytbcabcdgblmnkaa", sum := "5e702f0af29241db77e20b05d375caa9b241daead3185b8030f6b331a5e85ff5", func := "attest/attestlaw18.CnfMeans", spec := "cnfMeans", unfollowed := true, recurses := true, loops := true, plainKeys := false, apart := false }
def CnfMeansSaid : Prop := cnfMeansRow.holds Try.pinned (OpenSpec.ofChange cnfMeansSpec)

/-- ITS FALSE NEIGHBOUR: 'it returns false'. Refute it at one input. -/
def cnfMeansWrong : ChangeSpec := { name := "cnfMeans", fn := fun _ => fun
  | [d1, d2, d3] => { results := [.lit (.bool false)], args := [d1, d2, d3] }
  | _ => none }
def CnfMeansWrongFalsely : Prop := cnfMeansRow.holds Try.pinned (OpenSpec.ofChange cnfMeansWrong)

/- THE SECOND FORM. 'bulk': how many values and letters a reading holds, each counted each time it is reached (what is shared counts as often as it is met; a slice's spare places count too). A statement '..UptoSaid' is the law's where the arguments, and the package variables that the reading takes, are together of bulk at most 1048576: NARROWER than '..Said'. Prove '..Said' where nothing that the law and all that it calls make is longer than what came in: it says more and counts as full. Else prove '..UptoSaid'. A law counts once. -/
mutual
def uptoBulk {H : Type} : DataW H → Nat
  | .lit (.string bytes) => bytes.length + 1
  | .lit _ => 1
  | .nil => 1
  | .ptr d => uptoBulk d + 1
  | .slice elems spare => uptoBulkAll elems + uptoBulkAll spare + 1
  | .agg parts => uptoBulkAll parts + 1
  | .iface _ d => uptoBulk d + 1
  | .map entries => uptoBulkEntries entries + 1
  | .held _ => 1
def uptoBulkAll {H : Type} : List (DataW H) → Nat
  | [] => 0
  | d :: r => uptoBulk d + uptoBulkAll r
def uptoBulkEntries {H : Type} : List (Lit × DataW H) → Nat
  | [] => 0
  | x :: r => uptoBulkEntry x + uptoBulkEntries r
def uptoBulkEntry {H : Type} : Lit × DataW H → Nat
  | (.string bytes, d) => bytes.length + uptoBulk d + 1
  | (_, d) => uptoBulk d + 1
 end
def uptoSmall : (H : Type) → List (DataW H) → Bool := fun _ ds => decide (uptoBulkAll ds ≤ 1048576)
def OpenSpec.upto (s : _root_.Go.ChangeSpec) : _root_.Go.OpenSpec := { _root_.Go.OpenSpec.ofChange s with cond := some uptoSmall }

/-- 'attestlaw13.ClauseResolves', WHERE WHAT IT READS IS OF BULK AT MOST 1048576: true; the input reads as it did. -/
def clauseResolvesUptoRow : OpenClaim := { program := "ytbcabcdgblmnkaa", sum := "5e702f0af29241db77e20b05d375caa9b241daead3185b8030f6b331a5e85ff5", func := "attest/attestlaw13.ClauseResolves", spec := "clauseResolves", unfollowed := true, recurses := true, plainKeys := false, apart := false, narrowed := true }
def ClauseResolvesUptoSaid : Prop := clauseResolvesUptoRow.holds Try.pinned (OpenSpec.upto clauseResolvesSpec)

/-- 'attestlaw13.ClauseLends', WHERE WHAT IT READS IS OF BULK AT MOST 1048576: true; the input reads as it did. -/
def clauseLendsUptoRow : OpenClaim := { program := "ytbcabcdgblmnkaa", sum := "5e702f0af29241db77e20b05d375caa9b241daead3185b8030f6b331a5e85ff5", func := "attest/attestlaw13.ClauseLends", spec := "clauseLends", unfollowed := true, recurses := true, plainKeys := false, apart := false, narrowed := true }
def ClauseLendsUptoSaid : Prop := clauseLendsUptoRow.holds Try.pinned (OpenSpec.upto clauseLendsSpec)

/-- 'attestlaw13.ClauseHolds', WHERE WHAT IT READS IS OF BULK AT MOST 1048576: true; the input reads as it did. -/
def clauseHoldsUptoRow : OpenClaim := { program := "ytbcabcdgblmnkaa", sum := "5e702f0af29241db77e20b05d375caa9b241daead3185b8030f6b331a5e85ff5", func := "attest/attestlaw13.ClauseHolds", spec := "clauseHolds", unfollowed := true, recurses := true, plainKeys := false, apart := false, narrowed := true }
def ClauseHoldsUptoSaid : Prop := clauseHoldsUptoRow.holds Try.pinned (OpenSpec.upto clauseHoldsSpec)

/-- 'attestlaw13.ClauseChains', WHERE WHAT IT READS IS OF BULK AT MOST 1048576: true; the input reads as it did. -/
def clauseChainsUptoRow : OpenClaim := { program := "ytbcabcdgblmnkaa", sum := "5e702f0af29241db77e20b05d375caa9b241daead3185b8030f6b331a5e85ff5", func := "attest/attestlaw13.ClauseChains", spec := "clauseChains", unfollowed := true, recurses := true, plainKeys := false, apart := false, narrowed := true }
def ClauseChainsUptoSaid : Prop := clauseChainsUptoRow.holds Try.pinned (OpenSpec.upto clauseChainsSpec)

/-- 'attestlaw13.ClauseCanons', WHERE WHAT IT READS IS OF BULK AT MOST 1048576: true; the input reads as it did. -/
def clauseCanonsUptoRow : OpenClaim := { program := "ytbcabcdgblmnkaa", sum := "5e702f0af29241db77e20b05d375caa9b241daead3185b8030f6b331a5e85ff5", func := "attest/attestlaw13.ClauseCanons", spec := "clauseCanons", unfollowed := true, recurses := true, plainKeys := false, apart := false, narrowed := true }
def ClauseCanonsUptoSaid : Prop := clauseCanonsUptoRow.holds Try.pinned (OpenSpec.upto clauseCanonsSpec)

/-- 'attestlaw13.ClauseKeys', WHERE WHAT IT READS IS OF BULK AT MOST 1048576: true; the input reads as it did. -/
def clauseKeysUptoRow : OpenClaim := { program := "ytbcabcdgblmnkaa", sum := "5e702f0af29241db77e20b05d375caa9b241daead3185b8030f6b331a5e85ff5", func := "attest/attestlaw13.ClauseKeys", spec := "clauseKeys", unfollowed := true, recurses := true, plainKeys := false, apart := false, narrowed := true }
def ClauseKeysUptoSaid : Prop := clauseKeysUptoRow.holds Try.pinned (OpenSpec.upto clauseKeysSpec)

/-- 'attestlaw13.ClausePlaces', WHERE WHAT IT READS IS OF BULK AT MOST 1048576: true; the input reads as it did. -/
def clausePlacesUptoRow : OpenClaim := { program := "ytbcabcdgblmnkaa", sum := "5e702f0af29241db77e20b05d375caa9b241daead3185b8030f6b331a5e85ff5", func := "attest/attestlaw13.ClausePlaces", spec := "clausePlaces", unfollowed := true, recurses := true, plainKeys := false, apart := false, narrowed := true }
def ClausePlacesUptoSaid : Prop := clausePlacesUptoRow.holds Try.pinned (OpenSpec.upto clausePlacesSpec)

/-- 'attestlaw18.CnfClauses', WHERE WHAT IT READS IS OF BULK AT MOST 1048576: true; the input reads as it did. -/
def cnfClausesUptoRow : OpenClaim := { program := "ytbcabcdgblmnkaa", sum := "5e702f0af29241db77e20b05d375caa9b241daead3185b8030f6b331a5e85ff5", func := "attest/attestlaw18.CnfClauses", spec := "cnfClauses", unfollowed := true, recurses := true, loops := true, plainKeys := false, apart := false, narrowed := true }
def CnfClausesUptoSaid : Prop := cnfClausesUptoRow.holds Try.pinned (OpenSpec.upto cnfClausesSpec)

/-- 'attestlaw18.CnfExtends', WHERE WHAT IT READS IS OF BULK AT MOST 1048576: true; the input reads as it did. -/
def cnfExtendsUptoRow : OpenClaim := { program := "ytbcabcdgblmnkaa", sum := "5e702f0af29241db77e20b05d375caa9b241daead3185b8030f6b331a5e85ff5", func := "attest/attestlaw18.CnfExtends", spec := "cnfExtends", unfollowed := true, recurses := true, loops := true, plainKeys := false, apart := false, narrowed := true }
def CnfExtendsUptoSaid : Prop := cnfExtendsUptoRow.holds Try.pinned (OpenSpec.upto cnfExtendsSpec)

/-- 'attestlaw18.CnfMeans', WHERE WHAT IT READS IS OF BULK AT MOST 1048576: true; the input reads as it did. -/
def cnfMeansUptoRow : OpenClaim := { program := "ytbcabcdgblmnkaa", sum := "5e702f0af29241db77e20b05d375caa9b241daead3185b8030f6b331a5e85ff5", func := "attest/attestlaw18.CnfMeans", spec := "cnfMeans", unfollowed := true, recurses := true, loops := true, plainKeys := false, apart := false, narrowed := true }
def CnfMeansUptoSaid : Prop := cnfMeansUptoRow.holds Try.pinned (OpenSpec.upto cnfMeansSpec)

end Rows
end Go.Proofs.Ytbcabcdgblmnkaa
