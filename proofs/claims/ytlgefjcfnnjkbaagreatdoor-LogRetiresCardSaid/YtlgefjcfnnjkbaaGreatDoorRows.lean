/-
  NARROWER THAN 'FOR EVERY INPUT', by the rows' own cells (each row's printed sentence says how): LogRetires: laid · LogSealed: laid · LogAgain: laid · LogCut: laid · LogRots: laid · LogKept: laid.
  DERIVED. THE GIVEN ROWS OF THIS SEAT. 6 by the template 'for every input the law returns true; each argument reads behind the call as it read before'; 0 by the template 'total and deterministic' (their statements: YtlgefjcfnnjkbaaGreatDoorTotals.lean).
  GIVEN WITH THE SEED: the statements are not yours to turn. If you find one false, say at which input.
  Laid BY PROGRAM, IN A SANDBOX (cutbox-rows.mjs): the forced cells as the released guide's own fill.sh prints them over the translation 5f41a5cb836c17a5… (all of the seat's roots in one cut). By AI agents, Wed Nov 11 2026. No macro, syntax, notation, axiom, sorry.
-/
import Derived.Test.YtlgefjcfnnjkbaaGreatDoorChecked
import GoSem.Claim
import GoSem.ClaimJoined
import GoSem.ClaimMapViews
import Derived.JoinedTies
import Derived.KernelRfl
namespace Go.Proofs.YtlgefjcfnnjkbaaGreatDoor
/- THE CELL 'sum', in the pinned program and in every row, IS THE sha256 OF THE DUMP (.gsa) THAT YtlgefjcfnnjkbaaGreatDoorProg.lean LOADS. Nothing in Lean hashes anything: it is a label: what it is worth is what the hold of that sum in a sandbox is worth. -/
noncomputable def Tryz.pinned : Pinned := { name := "ytlgefjcfnnjkbaagreatdoor", sum := "5f41a5cb836c17a5f102433ac30f4a3d6eebd0318d177c0beaae64807ec2f8cf", checked := Tryz.checked }
namespace Rows
def none {H : Type} : Left H := { results := [], args := [] }

/- WHAT THE LISTED PACKAGE-LEVEL VARIABLES READ AS WHEN THE CALL BEGINS. Each datum BY PROGRAM (the guide's laid-datum.mjs) off the statement by which the dump's own 'gosem.cut.vars' lays the variable. In a bare row this is a premise. The card (YtlgefjcfnnjkbaaGreatDoorCards.lean) ties it to the program's text. -/
def laid_errors_errorType {H : Type} : DataW H := .iface "internal/reflectlite.rtype" (.agg [.ptr (.lit (.string [101, 114, 114, 111, 114]))])

/-- 'morainelaw13.LogRetires': WHATEVER THE INPUT: true; the input reads as it did. -/
def logRetiresSpec : ChangeSpec := { name := "logRetires", fn := fun _ => fun
  | [d1, d2] => { results := [.lit (.bool true)], args := [d1, d2] }
  | _ => none }
def logRetiresRow : OpenClaim := { program := "ytlgefjcfnnjkbaagreatdoor", sum := "5f41a5cb836c17a5f102433ac30f4a3d6eebd0318d177c0beaae64807ec2f8cf", func := "moraine/morainelaw13.LogRetires", spec := "logRetires", inPlace := ["internal/reflectlite.ValueOf", "(internal/reflectlite.Value).Type", "(internal/reflectlite.Value).IsNil", "internal/reflectlite.TypeOf", "(internal/reflectlite.Value).Elem", "(internal/reflectlite.Value).Set"], unfollowed := true, recurses := true, named := ["errors.errorType"], apart := false, laid := [("errors.errorType", laid_errors_errorType)] }
def LogRetiresSaid : Prop := logRetiresRow.holds Tryz.pinned (OpenSpec.ofChange logRetiresSpec)

/-- ITS FALSE NEIGHBOUR: 'it returns false'. Refute it at one input. -/
def logRetiresWrong : ChangeSpec := { name := "logRetires", fn := fun _ => fun
  | [d1, d2] => { results := [.lit (.bool false)], args := [d1, d2] }
  | _ => none }
def LogRetiresWrongFalsely : Prop := logRetiresRow.holds Tryz.pinned (OpenSpec.ofChange logRetiresWrong)

/-- 'morainelaw13.LogSealed': WHATEVER THE INPUT: true; the input reads as it did. -/
def logSealedSpec : ChangeSpec := { name := "logSealed", fn := fun _ => fun
  | [d1, d2] => { results := [.lit (.bool true)], args := [d1, d2] }
  | _ => none }
def logSealedRow : OpenClaim := { program := "ytlgefjcfnnjkbaagreatdoor", sum := "5f41a5cb836c17a5f102433ac30f4a3d6eebd0318d177c0beaae64807ec2f8cf", func := "moraine/morainelaw13.LogSealed", spec := "logSealed", inPlace := ["internal/reflectlite.ValueOf", "(internal/reflectlite.Value).Type", "(internal/reflectlite.Value).IsNil", "internal/reflectlite.TypeOf", "(internal/reflectlite.Value).Elem", "(internal/reflectlite.Value).Set"], unfollowed := true, recurses := true, named := ["errors.errorType"], apart := false, laid := [("errors.errorType", laid_errors_errorType)] }
def LogSealedSaid : Prop := logSealedRow.holds Tryz.pinned (OpenSpec.ofChange logSealedSpec)

/-- ITS FALSE NEIGHBOUR: 'it returns false'. Refute it at one input. -/
def logSealedWrong : ChangeSpec := { name := "logSealed", fn := fun _ => fun
  | [d1, d2] => { results := [.lit (.bool false)], args := [d1, d2] }
  | _ => none }
def LogSealedWrongFalsely : Prop := logSealedRow.holds Tryz.pinned (OpenSpec.ofChange logSealedWrong)

/-- 'morainelaw13.LogAgain': WHATEVER THE INPUT: true; the input reads as it did. -/
def logAgainSpec : ChangeSpec := { name := "logAgain", fn := fun _ => fun
  | [d1, d2] => { results := [.lit (.bool true)], args := [d1, d2] }
  | _ => none }
def logAgainRow : OpenClaim := { program := "ytlgefjcfnnjkbaagreatdoor", sum := "5f41a5cb836c17a5f102433ac30f4a3d6eebd0318d177c0beaae64807ec2f8cf", func := "moraine/morainelaw13.LogAgain", spec := "logAgain", inPlace := ["internal/reflectlite.ValueOf", "(internal/reflectlite.Value).Type", "(internal/reflectlite.Value).IsNil", "internal/reflectlite.TypeOf", "(internal/reflectlite.Value).Elem", "(internal/reflectlite.Value).Set"], unfollowed := true, recurses := true, named := ["errors.errorType"], apart := false, laid := [("errors.errorType", laid_errors_errorType)] }
def LogAgainSaid : Prop := logAgainRow.holds Tryz.pinned (OpenSpec.ofChange logAgainSpec)

/-- ITS FALSE NEIGHBOUR: 'it returns false'. Refute it at one input. -/
def logAgainWrong : ChangeSpec := { name := "logAgain", fn := fun _ => fun
  | [d1, d2] => { results := [.lit (.bool false)], args := [d1, d2] }
  | _ => none }
def LogAgainWrongFalsely : Prop := logAgainRow.holds Tryz.pinned (OpenSpec.ofChange logAgainWrong)

/-- 'morainelaw13.LogCut': WHATEVER THE INPUT: true; the input reads as it did. -/
def logCutSpec : ChangeSpec := { name := "logCut", fn := fun _ => fun
  | [d1, d2, d3, d4] => { results := [.lit (.bool true)], args := [d1, d2, d3, d4] }
  | _ => none }
def logCutRow : OpenClaim := { program := "ytlgefjcfnnjkbaagreatdoor", sum := "5f41a5cb836c17a5f102433ac30f4a3d6eebd0318d177c0beaae64807ec2f8cf", func := "moraine/morainelaw13.LogCut", spec := "logCut", inPlace := ["internal/reflectlite.ValueOf", "(internal/reflectlite.Value).Type", "(internal/reflectlite.Value).IsNil", "internal/reflectlite.TypeOf", "(internal/reflectlite.Value).Elem", "(internal/reflectlite.Value).Set"], unfollowed := true, recurses := true, named := ["errors.errorType"], apart := false, laid := [("errors.errorType", laid_errors_errorType)] }
def LogCutSaid : Prop := logCutRow.holds Tryz.pinned (OpenSpec.ofChange logCutSpec)

/-- ITS FALSE NEIGHBOUR: 'it returns false'. Refute it at one input. -/
def logCutWrong : ChangeSpec := { name := "logCut", fn := fun _ => fun
  | [d1, d2, d3, d4] => { results := [.lit (.bool false)], args := [d1, d2, d3, d4] }
  | _ => none }
def LogCutWrongFalsely : Prop := logCutRow.holds Tryz.pinned (OpenSpec.ofChange logCutWrong)

/-- 'morainelaw13.LogRots': WHATEVER THE INPUT: true; the input reads as it did. -/
def logRotsSpec : ChangeSpec := { name := "logRots", fn := fun _ => fun
  | [d1, d2, d3, d4] => { results := [.lit (.bool true)], args := [d1, d2, d3, d4] }
  | _ => none }
def logRotsRow : OpenClaim := { program := "ytlgefjcfnnjkbaagreatdoor", sum := "5f41a5cb836c17a5f102433ac30f4a3d6eebd0318d177c0beaae64807ec2f8cf", func := "moraine/morainelaw13.LogRots", spec := "logRots", inPlace := ["internal/reflectlite.ValueOf", "(internal/reflectlite.Value).Type", "(internal/reflectlite.Value).IsNil", "internal/reflectlite.TypeOf", "(internal/reflectlite.Value).Elem", "(internal/reflectlite.Value).Set"], unfollowed := true, recurses := true, named := ["errors.errorType"], apart := false, laid := [("errors.errorType", laid_errors_errorType)] }
def LogRotsSaid : Prop := logRotsRow.holds Tryz.pinned (OpenSpec.ofChange logRotsSpec)

/-- ITS FALSE NEIGHBOUR: 'it returns false'. Refute it at one input. -/
def logRotsWrong : ChangeSpec := { name := "logRots", fn := fun _ => fun
  | [d1, d2, d3, d4] => { results := [.lit (.bool false)], args := [d1, d2, d3, d4] }
  | _ => none }
def LogRotsWrongFalsely : Prop := logRotsRow.holds Tryz.pinned (OpenSpec.ofChange logRotsWrong)

/-- 'morainelaw13.LogKept': WHATEVER THE INPUT: true; the input reads as it did. -/
def logKeptSpec : ChangeSpec := { name := "logKept", fn := fun _ => fun
  | [d1, d2, d3, d4] => { results := [.lit (.bool true)], args := [d1, d2, d3, d4] }
  | _ => none }
def logKeptRow : OpenClaim := { program := "ytlgefjcfnnjkbaagreatdoor", sum := "5f41a5cb836c17a5f102433ac30f4a3d6eebd0318d177c0beaae64807ec2f8cf", func := "moraine/morainelaw13.LogKept", spec := "logKept", inPlace := ["internal/reflectlite.ValueOf", "(internal/reflectlite.Value).Type", "(internal/reflectlite.Value).IsNil", "internal/reflectlite.TypeOf", "(internal/reflectlite.Value).Elem", "(internal/reflectlite.Value).Set"], unfollowed := true, recurses := true, named := ["errors.errorType"], apart := false, laid := [("errors.errorType", laid_errors_errorType)] }
def LogKeptSaid : Prop := logKeptRow.holds Tryz.pinned (OpenSpec.ofChange logKeptSpec)

/-- ITS FALSE NEIGHBOUR: 'it returns false'. Refute it at one input. -/
def logKeptWrong : ChangeSpec := { name := "logKept", fn := fun _ => fun
  | [d1, d2, d3, d4] => { results := [.lit (.bool false)], args := [d1, d2, d3, d4] }
  | _ => none }
def LogKeptWrongFalsely : Prop := logKeptRow.holds Tryz.pinned (OpenSpec.ofChange logKeptWrong)

/- THE SECOND FORM. 'bulk': how many values and letters a reading holds, each counted each time it is reached (what is shared counts as often as it is met; a slice's spare places count too). A statement '..UptoSaid' is the law's where the arguments, and the package variables that the reading takes, are together of bulk at most 1048576: NARROWER than '..Said'. Prove '..Said' where nothing that the law and all that it calls make is longer than what came in: it says more and counts as full. Else prove '..UptoSaid'. A law counts once. -/
mutual
def uptoBulk {H : Type} : DataW H → Nat
  | .lit (.string bytes) => bytes.length + 1
  | .lit _ => 1
  | .nil => 1
  | .ptr d => uptoBulk d + 1
  | .slice elems spare => uptoBulkAll elems + uptoBulkAll spare + 1
  | .agg parts => uptoBulkAll parts + 1
  | .iface _ d => uptoBulk d + 1
  | .map entries => uptoBulkEntries entries + 1
  | .held _ => 1
def uptoBulkAll {H : Type} : List (DataW H) → Nat
  | [] => 0
  | d :: r => uptoBulk d + uptoBulkAll r
def uptoBulkEntries {H : Type} : List (Lit × DataW H) → Nat
  | [] => 0
  | x :: r => uptoBulkEntry x + uptoBulkEntries r
def uptoBulkEntry {H : Type} : Lit × DataW H → Nat
  | (.string bytes, d) => bytes.length + uptoBulk d + 1
  | (_, d) => uptoBulk d + 1
 end
def uptoSmall : (H : Type) → List (DataW H) → Bool := fun _ ds => decide (uptoBulkAll ds ≤ 1048576)
def OpenSpec.upto (s : _root_.Go.ChangeSpec) : _root_.Go.OpenSpec := { _root_.Go.OpenSpec.ofChange s with cond := some uptoSmall }

/-- 'morainelaw13.LogRetires', WHERE WHAT IT READS IS OF BULK AT MOST 1048576: true; the input reads as it did. -/
def logRetiresUptoRow : OpenClaim := { program := "ytlgefjcfnnjkbaagreatdoor", sum := "5f41a5cb836c17a5f102433ac30f4a3d6eebd0318d177c0beaae64807ec2f8cf", func := "moraine/morainelaw13.LogRetires", spec := "logRetires", inPlace := ["internal/reflectlite.ValueOf", "(internal/reflectlite.Value).Type", "(internal/reflectlite.Value).IsNil", "internal/reflectlite.TypeOf", "(internal/reflectlite.Value).Elem", "(internal/reflectlite.Value).Set"], unfollowed := true, recurses := true, named := ["errors.errorType"], apart := false, laid := [("errors.errorType", laid_errors_errorType)], narrowed := true }
def LogRetiresUptoSaid : Prop := logRetiresUptoRow.holds Tryz.pinned (OpenSpec.upto logRetiresSpec)

/-- 'morainelaw13.LogSealed', WHERE WHAT IT READS IS OF BULK AT MOST 1048576: true; the input reads as it did. -/
def logSealedUptoRow : OpenClaim := { program := "ytlgefjcfnnjkbaagreatdoor", sum := "5f41a5cb836c17a5f102433ac30f4a3d6eebd0318d177c0beaae64807ec2f8cf", func := "moraine/morainelaw13.LogSealed", spec := "logSealed", inPlace := ["internal/reflectlite.ValueOf", "(internal/reflectlite.Value).Type", "(internal/reflectlite.Value).IsNil", "internal/reflectlite.TypeOf", "(internal/reflectlite.Value).Elem", "(internal/reflectlite.Value).Set"], unfollowed := true, recurses := true, named := ["errors.errorType"], apart := false, laid := [("errors.errorType", laid_errors_errorType)], narrowed := true }
def LogSealedUptoSaid : Prop := logSealedUptoRow.holds Tryz.pinned (OpenSpec.upto logSealedSpec)

/-- 'morainelaw13.LogAgain', WHERE WHAT IT READS IS OF BULK AT MOST 1048576: true; the input reads as it did. -/
def logAgainUptoRow : OpenClaim := { program := "ytlgefjcfnnjkbaagreatdoor", sum := "5f41a5cb836c17a5f102433ac30f4a3d6eebd0318d177c0beaae64807ec2f8cf", func := "moraine/morainelaw13.LogAgain", spec := "logAgain", inPlace := ["internal/reflectlite.ValueOf", "(internal/reflectlite.Value).Type", "(internal/reflectlite.Value).IsNil", "internal/reflectlite.TypeOf", "(internal/reflectlite.Value).Elem", "(internal/reflectlite.Value).Set"], unfollowed := true, recurses := true, named := ["errors.errorType"], apart := false, laid := [("errors.errorType", laid_errors_errorType)], narrowed := true }
def LogAgainUptoSaid : Prop := logAgainUptoRow.holds Tryz.pinned (OpenSpec.upto logAgainSpec)

/-- 'morainelaw13.LogCut', WHERE WHAT IT READS IS OF BULK AT MOST 1048576: true; the input reads as it did. -/
def logCutUptoRow : OpenClaim := { program := "ytlgefjcfnnjkbaagreatdoor", sum := "5f41a5cb836c17a5f102433ac30f4a3d6eebd0318d177c0beaae64807ec2f8cf", func := "moraine/morainelaw13.LogCut", spec := "logCut", inPlace := ["internal/reflectlite.ValueOf", "(internal/reflectlite.Value).Type", "(internal/reflectlite.Value).IsNil", "internal/reflectlite.TypeOf", "(internal/reflectlite.Value).Elem", "(internal/reflectlite.Value).Set"], unfollowed := true, recurses := true, named := ["errors.errorType"], apart := false, laid := [("errors.errorType", laid_errors_errorType)], narrowed := true }
def LogCutUptoSaid : Prop := logCutUptoRow.holds Tryz.pinned (OpenSpec.upto logCutSpec)

/-- 'morainelaw13.LogRots', WHERE WHAT IT READS IS OF BULK AT MOST 1048576: true; the input reads as it did. -/
def logRotsUptoRow : OpenClaim := { program := "ytlgefjcfnnjkbaagreatdoor", sum := "5f41a5cb836c17a5f102433ac30f4a3d6eebd0318d177c0beaae64807ec2f8cf", func := "moraine/morainelaw13.LogRots", spec := "logRots", inPlace := ["internal/reflectlite.ValueOf", "(internal/reflectlite.Value).Type", "(internal/reflectlite.Value).IsNil", "internal/reflectlite.TypeOf", "(internal/reflectlite.Value).Elem", "(internal/reflectlite.Value).Set"], unfollowed := true, recurses := true, named := ["errors.errorType"], apart := false, laid := [("errors.errorType", laid_errors_errorType)], narrowed := true }
def LogRotsUptoSaid : Prop := logRotsUptoRow.holds Tryz.pinned (OpenSpec.upto logRotsSpec)

/-- 'morainelaw13.LogKept', WHERE WHAT IT READS IS OF BULK AT MOST 1048576: true; the input reads as it did. -/
def logKeptUptoRow : OpenClaim := { program := "ytlgefjcfnnjkbaagreatdoor", sum := "5f41a5cb836c17a5f102433ac30f4a3d6eebd0318d177c0beaae64807ec2f8cf", func := "moraine/morainelaw13.LogKept", spec := "logKept", inPlace := ["internal/reflectlite.ValueOf", "(internal/reflectlite.Value).Type", "(internal/reflectlite.Value).IsNil", "internal/reflectlite.TypeOf", "(internal/reflectlite.Value).Elem", "(internal/reflectlite.Value).Set"], unfollowed := true, recurses := true, named := ["errors.errorType"], apart := false, laid := [("errors.errorType", laid_errors_errorType)], narrowed := true }
def LogKeptUptoSaid : Prop := logKeptUptoRow.holds Tryz.pinned (OpenSpec.upto logKeptSpec)

end Rows
end Go.Proofs.YtlgefjcfnnjkbaaGreatDoor
