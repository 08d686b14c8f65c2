/-
  NARROWER THAN 'FOR EVERY INPUT', by the rows' own cells (each row's printed sentence says how): HostParses: laid · HostInverse: laid · HostFinds: laid · HostCase: laid · HostChooses: laid.
  DERIVED. THE GIVEN ROWS OF THIS SEAT. 5 by the template 'for every input the law returns true; each argument reads behind the call as it read before'; 0 by the template 'total and deterministic' (their statements: YtfpknphncaopkaaDoorTotals.lean).
  GIVEN WITH THE SEED: the statements are not yours to turn. If you find one false, say at which input.
  Laid BY PROGRAM, IN A SANDBOX (cutbox-rows.mjs): the forced cells as the released guide's own fill.sh prints them over the translation bcd34717cc4fa1cc… (all of the seat's roots in one cut). By AI agents, Wed Nov 11 2026. No macro, syntax, notation, axiom, sorry.
-/
import Derived.Test.YtfpknphncaopkaaDoorChecked
import GoSem.Claim
import GoSem.ClaimJoined
import GoSem.ClaimMapViews
import Derived.JoinedTies
import Derived.KernelRfl
namespace Go.Proofs.YtfpknphncaopkaaDoor
/- THE CELL 'sum', in the pinned program and in every row, IS THE sha256 OF THE DUMP (.gsa) THAT YtfpknphncaopkaaDoorProg.lean LOADS. Nothing in Lean hashes anything: it is a label: what it is worth is what the hold of that sum in a sandbox is worth. -/
noncomputable def Tryd.pinned : Pinned := { name := "ytfpknphncaopkaadoor", sum := "bcd34717cc4fa1cceb09cf8a498259eb4bd3e43adffc2f517b9041360b6d56b8", checked := Tryd.checked }
namespace Rows
def none {H : Type} : Left H := { results := [], args := [] }

/- WHAT THE LISTED PACKAGE-LEVEL VARIABLES READ AS WHEN THE CALL BEGINS. Each datum BY PROGRAM (the guide's laid-datum.mjs) off the statement by which the dump's own 'gosem.cut.vars' lays the variable. In a bare row this is a premise. The card (YtfpknphncaopkaaDoorCards.lean) ties it to the program's text. -/
def laid_errors_errorType {H : Type} : DataW H := .iface "internal/reflectlite.rtype" (.agg [.ptr (.lit (.string [101, 114, 114, 111, 114]))])
def laid_doorkeeper_host_classes {H : Type} : DataW H := .iface "func table" (.agg [.agg [.lit (.string [91]), .lit (.string [93]), .iface "func" (.lit (.string [100, 111, 111, 114, 107, 101, 101, 112, 101, 114, 47, 104, 111, 115, 116, 46, 99, 108, 97, 115, 115, 101, 115, 36, 49]))], .agg [.lit (.string []), .lit (.string []), .iface "func" (.lit (.string [100, 111, 111, 114, 107, 101, 101, 112, 101, 114, 47, 104, 111, 115, 116, 46, 99, 108, 97, 115, 115, 101, 115, 36, 50]))]])

/-- 'doorkeeperlaw18.HostParses': WHATEVER THE INPUT: true; the input reads as it did. -/
def hostParsesSpec : ChangeSpec := { name := "hostParses", fn := fun _ => fun
  | [d] => { results := [.lit (.bool true)], args := [d] }
  | _ => none }
def hostParsesRow : OpenClaim := { program := "ytfpknphncaopkaadoor", sum := "bcd34717cc4fa1cceb09cf8a498259eb4bd3e43adffc2f517b9041360b6d56b8", func := "doorkeeper/doorkeeperlaw18.HostParses", spec := "hostParses", inPlace := ["internal/reflectlite.ValueOf", "(internal/reflectlite.Value).Type", "(internal/reflectlite.Value).IsNil", "internal/reflectlite.TypeOf", "(internal/reflectlite.Value).Elem", "(internal/reflectlite.Value).Set"], unfollowed := true, recurses := true, named := ["doorkeeper/host.classes", "errors.errorType"], apart := false, laid := [("errors.errorType", laid_errors_errorType), ("doorkeeper/host.classes", laid_doorkeeper_host_classes)] }
def HostParsesSaid : Prop := hostParsesRow.holds Tryd.pinned (OpenSpec.ofChange hostParsesSpec)

/-- ITS FALSE NEIGHBOUR: 'it returns false'. Refute it at one input. -/
def hostParsesWrong : ChangeSpec := { name := "hostParses", fn := fun _ => fun
  | [d] => { results := [.lit (.bool false)], args := [d] }
  | _ => none }
def HostParsesWrongFalsely : Prop := hostParsesRow.holds Tryd.pinned (OpenSpec.ofChange hostParsesWrong)

/-- 'doorkeeperlaw18.HostInverse': WHATEVER THE INPUT: true; the input reads as it did. -/
def hostInverseSpec : ChangeSpec := { name := "hostInverse", fn := fun _ => fun
  | [d1, d2] => { results := [.lit (.bool true)], args := [d1, d2] }
  | _ => none }
def hostInverseRow : OpenClaim := { program := "ytfpknphncaopkaadoor", sum := "bcd34717cc4fa1cceb09cf8a498259eb4bd3e43adffc2f517b9041360b6d56b8", func := "doorkeeper/doorkeeperlaw18.HostInverse", spec := "hostInverse", inPlace := ["internal/reflectlite.ValueOf", "(internal/reflectlite.Value).Type", "(internal/reflectlite.Value).IsNil", "internal/reflectlite.TypeOf", "(internal/reflectlite.Value).Elem", "(internal/reflectlite.Value).Set"], unfollowed := true, recurses := true, named := ["doorkeeper/host.classes", "errors.errorType"], apart := false, laid := [("errors.errorType", laid_errors_errorType), ("doorkeeper/host.classes", laid_doorkeeper_host_classes)] }
def HostInverseSaid : Prop := hostInverseRow.holds Tryd.pinned (OpenSpec.ofChange hostInverseSpec)

/-- ITS FALSE NEIGHBOUR: 'it returns false'. Refute it at one input. -/
def hostInverseWrong : ChangeSpec := { name := "hostInverse", fn := fun _ => fun
  | [d1, d2] => { results := [.lit (.bool false)], args := [d1, d2] }
  | _ => none }
def HostInverseWrongFalsely : Prop := hostInverseRow.holds Tryd.pinned (OpenSpec.ofChange hostInverseWrong)

/-- 'doorkeeperlaw18.HostFinds': WHATEVER THE INPUT: true; the input reads as it did. -/
def hostFindsSpec : ChangeSpec := { name := "hostFinds", fn := fun _ => fun
  | [d1, d2] => { results := [.lit (.bool true)], args := [d1, d2] }
  | _ => none }
def hostFindsRow : OpenClaim := { program := "ytfpknphncaopkaadoor", sum := "bcd34717cc4fa1cceb09cf8a498259eb4bd3e43adffc2f517b9041360b6d56b8", func := "doorkeeper/doorkeeperlaw18.HostFinds", spec := "hostFinds", inPlace := ["internal/reflectlite.ValueOf", "(internal/reflectlite.Value).Type", "(internal/reflectlite.Value).IsNil", "internal/reflectlite.TypeOf", "(internal/reflectlite.Value).Elem", "(internal/reflectlite.Value).Set"], unfollowed := true, recurses := true, named := ["doorkeeper/host.classes", "errors.errorType"], apart := false, laid := [("errors.errorType", laid_errors_errorType), ("doorkeeper/host.classes", laid_doorkeeper_host_classes)] }
def HostFindsSaid : Prop := hostFindsRow.holds Tryd.pinned (OpenSpec.ofChange hostFindsSpec)

/-- ITS FALSE NEIGHBOUR: 'it returns false'. Refute it at one input. -/
def hostFindsWrong : ChangeSpec := { name := "hostFinds", fn := fun _ => fun
  | [d1, d2] => { results := [.lit (.bool false)], args := [d1, d2] }
  | _ => none }
def HostFindsWrongFalsely : Prop := hostFindsRow.holds Tryd.pinned (OpenSpec.ofChange hostFindsWrong)

/-- 'doorkeeperlaw18.HostCase': WHATEVER THE INPUT: true; the input reads as it did. -/
def hostCaseSpec : ChangeSpec := { name := "hostCase", fn := fun _ => fun
  | [d1, d2, d3] => { results := [.lit (.bool true)], args := [d1, d2, d3] }
  | _ => none }
def hostCaseRow : OpenClaim := { program := "ytfpknphncaopkaadoor", sum := "bcd34717cc4fa1cceb09cf8a498259eb4bd3e43adffc2f517b9041360b6d56b8", func := "doorkeeper/doorkeeperlaw18.HostCase", spec := "hostCase", inPlace := ["internal/reflectlite.ValueOf", "(internal/reflectlite.Value).Type", "(internal/reflectlite.Value).IsNil", "internal/reflectlite.TypeOf", "(internal/reflectlite.Value).Elem", "(internal/reflectlite.Value).Set"], unfollowed := true, recurses := true, named := ["doorkeeper/host.classes", "errors.errorType"], apart := false, laid := [("errors.errorType", laid_errors_errorType), ("doorkeeper/host.classes", laid_doorkeeper_host_classes)] }
def HostCaseSaid : Prop := hostCaseRow.holds Tryd.pinned (OpenSpec.ofChange hostCaseSpec)

/-- ITS FALSE NEIGHBOUR: 'it returns false'. Refute it at one input. -/
def hostCaseWrong : ChangeSpec := { name := "hostCase", fn := fun _ => fun
  | [d1, d2, d3] => { results := [.lit (.bool false)], args := [d1, d2, d3] }
  | _ => none }
def HostCaseWrongFalsely : Prop := hostCaseRow.holds Tryd.pinned (OpenSpec.ofChange hostCaseWrong)

/-- 'doorkeeperlaw18.HostChooses': WHATEVER THE INPUT: true; the input reads as it did. -/
def hostChoosesSpec : ChangeSpec := { name := "hostChooses", fn := fun _ => fun
  | [d1, d2, d3, d4] => { results := [.lit (.bool true)], args := [d1, d2, d3, d4] }
  | _ => none }
def hostChoosesRow : OpenClaim := { program := "ytfpknphncaopkaadoor", sum := "bcd34717cc4fa1cceb09cf8a498259eb4bd3e43adffc2f517b9041360b6d56b8", func := "doorkeeper/doorkeeperlaw18.HostChooses", spec := "hostChooses", inPlace := ["internal/reflectlite.ValueOf", "(internal/reflectlite.Value).Type", "(internal/reflectlite.Value).IsNil", "internal/reflectlite.TypeOf", "(internal/reflectlite.Value).Elem", "(internal/reflectlite.Value).Set"], unfollowed := true, recurses := true, named := ["doorkeeper/host.classes", "errors.errorType"], apart := false, laid := [("errors.errorType", laid_errors_errorType), ("doorkeeper/host.classes", laid_doorkeeper_host_classes)] }
def HostChoosesSaid : Prop := hostChoosesRow.holds Tryd.pinned (OpenSpec.ofChange hostChoosesSpec)

/-- ITS FALSE NEIGHBOUR: 'it returns false'. Refute it at one input. -/
def hostChoosesWrong : ChangeSpec := { name := "hostChooses", fn := fun _ => fun
  | [d1, d2, d3, d4] => { results := [.lit (.bool false)], args := [d1, d2, d3, d4] }
  | _ => none }
def HostChoosesWrongFalsely : Prop := hostChoosesRow.holds Tryd.pinned (OpenSpec.ofChange hostChoosesWrong)

/- THE SECOND FORM. 'bulk': how many values and letters a reading holds, each counted each time it is reached (what is shared counts as often as it is met; a slice's spare places count too). A statement '..UptoSaid' is the law's where the arguments, and the package variables that the reading takes, are together of bulk at most 1048576: NARROWER than '..Said'. Prove '..Said' where nothing that the law and all that it calls make is longer than what came in: it says more and counts as full. Else prove '..UptoSaid'. A law counts once. -/
mutual
def uptoBulk {H : Type} : DataW H → Nat
  | .lit (.string bytes) => bytes.length + 1
  | .lit _ => 1
  | .nil => 1
  | .ptr d => uptoBulk d + 1
  | .slice elems spare => uptoBulkAll elems + uptoBulkAll spare + 1
  | .agg parts => uptoBulkAll parts + 1
  | .iface _ d => uptoBulk d + 1
  | .map entries => uptoBulkEntries entries + 1
  | .held _ => 1
def uptoBulkAll {H : Type} : List (DataW H) → Nat
  | [] => 0
  | d :: r => uptoBulk d + uptoBulkAll r
def uptoBulkEntries {H : Type} : List (Lit × DataW H) → Nat
  | [] => 0
  | x :: r => uptoBulkEntry x + uptoBulkEntries r
def uptoBulkEntry {H : Type} : Lit × DataW H → Nat
  | (.string bytes, d) => bytes.length + uptoBulk d + 1
  | (_, d) => uptoBulk d + 1
 end
def uptoSmall : (H : Type) → List (DataW H) → Bool := fun _ ds => decide (uptoBulkAll ds ≤ 1048576)
def OpenSpec.upto (s : _root_.Go.ChangeSpec) : _root_.Go.OpenSpec := { _root_.Go.OpenSpec.ofChange s with cond := some uptoSmall }

/-- 'doorkeeperlaw18.HostParses', WHERE WHAT IT READS IS OF BULK AT MOST 1048576: true; the input reads as it did. -/
def hostParsesUptoRow : OpenClaim := { program := "ytfpknphncaopkaadoor", sum := "bcd34717cc4fa1cceb09cf8a498259eb4bd3e43adffc2f517b9041360b6d56b8", func := "doorkeeper/doorkeeperlaw18.HostParses", spec := "hostParses", inPlace := ["internal/reflectlite.ValueOf", "(internal/reflectlite.Value).Type", "(internal/reflectlite.Value).IsNil", "internal/reflectlite.TypeOf", "(internal/reflectlite.Value).Elem", "(internal/reflectlite.Value).Set"], unfollowed := true, recurses := true, named := ["doorkeeper/host.classes", "errors.errorType"], apart := false, laid := [("errors.errorType", laid_errors_errorType), ("doorkeeper/host.classes", laid_doorkeeper_host_classes)], narrowed := true }
def HostParsesUptoSaid : Prop := hostParsesUptoRow.holds Tryd.pinned (OpenSpec.upto hostParsesSpec)

/-- 'doorkeeperlaw18.HostInverse', WHERE WHAT IT READS IS OF BULK AT MOST 1048576: true; the input reads as it did. -/
def hostInverseUptoRow : OpenClaim := { program := "ytfpknphncaopkaadoor", sum := "bcd34717cc4fa1cceb09cf8a498259eb4bd3e43adffc2f517b9041360b6d56b8", func := "doorkeeper/doorkeeperlaw18.HostInverse", spec := "hostInverse", inPlace := ["internal/reflectlite.ValueOf", "(internal/reflectlite.Value).Type", "(internal/reflectlite.Value).IsNil", "internal/reflectlite.TypeOf", "(internal/reflectlite.Value).Elem", "(internal/reflectlite.Value).Set"], unfollowed := true, recurses := true, named := ["doorkeeper/host.classes", "errors.errorType"], apart := false, laid := [("errors.errorType", laid_errors_errorType), ("doorkeeper/host.classes", laid_doorkeeper_host_classes)], narrowed := true }
def HostInverseUptoSaid : Prop := hostInverseUptoRow.holds Tryd.pinned (OpenSpec.upto hostInverseSpec)

/-- 'doorkeeperlaw18.HostFinds', WHERE WHAT IT READS IS OF BULK AT MOST 1048576: true; the input reads as it did. -/
def hostFindsUptoRow : OpenClaim := { program := "ytfpknphncaopkaadoor", sum := "bcd34717cc4fa1cceb09cf8a498259eb4bd3e43adffc2f517b9041360b6d56b8", func := "doorkeeper/doorkeeperlaw18.HostFinds", spec := "hostFinds", inPlace := ["internal/reflectlite.ValueOf", "(internal/reflectlite.Value).Type", "(internal/reflectlite.Value).IsNil", "internal/reflectlite.TypeOf", "(internal/reflectlite.Value).Elem", "(internal/reflectlite.Value).Set"], unfollowed := true, recurses := true, named := ["doorkeeper/host.classes", "errors.errorType"], apart := false, laid := [("errors.errorType", laid_errors_errorType), ("doorkeeper/host.classes", laid_doorkeeper_host_classes)], narrowed := true }
def HostFindsUptoSaid : Prop := hostFindsUptoRow.holds Tryd.pinned (OpenSpec.upto hostFindsSpec)

/-- 'doorkeeperlaw18.HostCase', WHERE WHAT IT READS IS OF BULK AT MOST 1048576: true; the input reads as it did. -/
def hostCaseUptoRow : OpenClaim := { program := "ytfpknphncaopkaadoor", sum := "bcd34717cc4fa1cceb09cf8a498259eb4bd3e43adffc2f517b9041360b6d56b8", func := "doorkeeper/doorkeeperlaw18.HostCase", spec := "hostCase", inPlace := ["internal/reflectlite.ValueOf", "(internal/reflectlite.Value).Type", "(internal/reflectlite.Value).IsNil", "internal/reflectlite.TypeOf", "(internal/reflectlite.Value).Elem", "(internal/reflectlite.Value).Set"], unfollowed := true, recurses := true, named := ["doorkeeper/host.classes", "errors.errorType"], apart := false, laid := [("errors.errorType", laid_errors_errorType), ("doorkeeper/host.classes", laid_doorkeeper_host_classes)], narrowed := true }
def HostCaseUptoSaid : Prop := hostCaseUptoRow.holds Tryd.pinned (OpenSpec.upto hostCaseSpec)

/-- 'doorkeeperlaw18.HostChooses', WHERE WHAT IT READS IS OF BULK AT MOST 1048576: true; the input reads as it did. -/
def hostChoosesUptoRow : OpenClaim := { program := "ytfpknphncaopkaadoor", sum := "bcd34717cc4fa1cceb09cf8a498259eb4bd3e43adffc2f517b9041360b6d56b8", func := "doorkeeper/doorkeeperlaw18.HostChooses", spec := "hostChooses", inPlace := ["internal/reflectlite.ValueOf", "(internal/reflectlite.Value).Type", "(internal/reflectlite.Value).IsNil", "internal/reflectlite.TypeOf", "(internal/reflectlite.Value).Elem", "(internal/reflectlite.Value).Set"], unfollowed := true, recurses := true, named := ["doorkeeper/host.classes", "errors.errorType"], apart := false, laid := [("errors.errorType", laid_errors_errorType), ("doorkeeper/host.classes", laid_doorkeeper_host_classes)], narrowed := true }
def HostChoosesUptoSaid : Prop := hostChoosesUptoRow.holds Tryd.pinned (OpenSpec.upto hostChoosesSpec)

end Rows
end Go.Proofs.YtfpknphncaopkaaDoor
