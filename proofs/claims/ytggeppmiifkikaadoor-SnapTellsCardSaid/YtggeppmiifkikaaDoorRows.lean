/-
  NARROWER THAN 'FOR EVERY INPUT', by the rows' own cells (each row's printed sentence says how): SnapTells: laid · SnapBack: laid · SnapSeals: laid · SnapLengths: laid · SnapFewer: laid · SnapFaults: laid.
  DERIVED. THE GIVEN ROWS OF THIS SEAT. 6 by the template 'for every input the law returns true; each argument reads behind the call as it read before'; 0 by the template 'total and deterministic' (their statements: YtggeppmiifkikaaDoorTotals.lean).
  GIVEN WITH THE SEED: the statements are not yours to turn. If you find one false, say at which input.
  Laid BY PROGRAM, IN A SANDBOX (cutbox-rows.mjs): the forced cells as the released guide's own fill.sh prints them over the translation b37e7f8234afbc4e… (all of the seat's roots in one cut). By AI agents, Wed Nov 11 2026. No macro, syntax, notation, axiom, sorry.
-/
import Derived.Test.YtggeppmiifkikaaDoorChecked
import GoSem.Claim
import GoSem.ClaimJoined
import GoSem.ClaimMapViews
import Derived.JoinedTies
import Derived.KernelRfl
namespace Go.Proofs.YtggeppmiifkikaaDoor
/- THE CELL 'sum', in the pinned program and in every row, IS THE sha256 OF THE DUMP (.gsa) THAT YtggeppmiifkikaaDoorProg.lean LOADS. Nothing in Lean hashes anything: it is a label: what it is worth is what the hold of that sum in a sandbox is worth. -/
noncomputable def Tryd.pinned : Pinned := { name := "ytggeppmiifkikaadoor", sum := "b37e7f8234afbc4ec68b5a6e7cd3ffeede8d485259042301a320f2db207a43da", checked := Tryd.checked }
namespace Rows
def none {H : Type} : Left H := { results := [], args := [] }

/- WHAT THE LISTED PACKAGE-LEVEL VARIABLES READ AS WHEN THE CALL BEGINS. Each datum BY PROGRAM (the guide's laid-datum.mjs) off the statement by which the dump's own 'gosem.cut.vars' lays the variable. In a bare row this is a premise. The card (YtggeppmiifkikaaDoorCards.lean) ties it to the program's text. -/
def laid_errors_errorType {H : Type} : DataW H := .iface "internal/reflectlite.rtype" (.agg [.ptr (.lit (.string [101, 114, 114, 111, 114]))])

/-- 'cachewiselaw16.SnapTells': WHATEVER THE INPUT: true; the input reads as it did. -/
def snapTellsSpec : ChangeSpec := { name := "snapTells", fn := fun _ => fun
  | [d1, d2] => { results := [.lit (.bool true)], args := [d1, d2] }
  | _ => none }
def snapTellsRow : OpenClaim := { program := "ytggeppmiifkikaadoor", sum := "b37e7f8234afbc4ec68b5a6e7cd3ffeede8d485259042301a320f2db207a43da", func := "cachewise/cachewiselaw16.SnapTells", spec := "snapTells", inPlace := ["internal/abi.NoEscape", "internal/reflectlite.ValueOf", "(internal/reflectlite.Value).Type", "(internal/reflectlite.Value).IsNil", "internal/reflectlite.TypeOf", "(internal/reflectlite.Value).Elem", "(internal/reflectlite.Value).Set"], unfollowed := true, recurses := true, named := ["errors.errorType"], apart := false, laid := [("errors.errorType", laid_errors_errorType)] }
def SnapTellsSaid : Prop := snapTellsRow.holds Tryd.pinned (OpenSpec.ofChange snapTellsSpec)

/-- ITS FALSE NEIGHBOUR: 'it returns false'. Refute it at one input. -/
def snapTellsWrong : ChangeSpec := { name := "snapTells", fn := fun _ => fun
  | [d1, d2] => { results := [.lit (.bool false)], args := [d1, d2] }
  | _ => none }
def SnapTellsWrongFalsely : Prop := snapTellsRow.holds Tryd.pinned (OpenSpec.ofChange snapTellsWrong)

/-- 'cachewiselaw16.SnapBack': WHATEVER THE INPUT: true; the input reads as it did. -/
def snapBackSpec : ChangeSpec := { name := "snapBack", fn := fun _ => fun
  | [d1, d2, d3] => { results := [.lit (.bool true)], args := [d1, d2, d3] }
  | _ => none }
def snapBackRow : OpenClaim := { program := "ytggeppmiifkikaadoor", sum := "b37e7f8234afbc4ec68b5a6e7cd3ffeede8d485259042301a320f2db207a43da", func := "cachewise/cachewiselaw16.SnapBack", spec := "snapBack", inPlace := ["internal/abi.NoEscape", "internal/reflectlite.ValueOf", "(internal/reflectlite.Value).Type", "(internal/reflectlite.Value).IsNil", "internal/reflectlite.TypeOf", "(internal/reflectlite.Value).Elem", "(internal/reflectlite.Value).Set"], unfollowed := true, recurses := true, named := ["errors.errorType"], apart := false, laid := [("errors.errorType", laid_errors_errorType)] }
def SnapBackSaid : Prop := snapBackRow.holds Tryd.pinned (OpenSpec.ofChange snapBackSpec)

/-- ITS FALSE NEIGHBOUR: 'it returns false'. Refute it at one input. -/
def snapBackWrong : ChangeSpec := { name := "snapBack", fn := fun _ => fun
  | [d1, d2, d3] => { results := [.lit (.bool false)], args := [d1, d2, d3] }
  | _ => none }
def SnapBackWrongFalsely : Prop := snapBackRow.holds Tryd.pinned (OpenSpec.ofChange snapBackWrong)

/-- 'cachewiselaw16.SnapSeals': WHATEVER THE INPUT: true; the input reads as it did. -/
def snapSealsSpec : ChangeSpec := { name := "snapSeals", fn := fun _ => fun
  | [d1, d2, d3] => { results := [.lit (.bool true)], args := [d1, d2, d3] }
  | _ => none }
def snapSealsRow : OpenClaim := { program := "ytggeppmiifkikaadoor", sum := "b37e7f8234afbc4ec68b5a6e7cd3ffeede8d485259042301a320f2db207a43da", func := "cachewise/cachewiselaw16.SnapSeals", spec := "snapSeals", inPlace := ["internal/abi.NoEscape", "internal/reflectlite.ValueOf", "(internal/reflectlite.Value).Type", "(internal/reflectlite.Value).IsNil", "internal/reflectlite.TypeOf", "(internal/reflectlite.Value).Elem", "(internal/reflectlite.Value).Set"], unfollowed := true, recurses := true, named := ["errors.errorType"], apart := false, laid := [("errors.errorType", laid_errors_errorType)] }
def SnapSealsSaid : Prop := snapSealsRow.holds Tryd.pinned (OpenSpec.ofChange snapSealsSpec)

/-- ITS FALSE NEIGHBOUR: 'it returns false'. Refute it at one input. -/
def snapSealsWrong : ChangeSpec := { name := "snapSeals", fn := fun _ => fun
  | [d1, d2, d3] => { results := [.lit (.bool false)], args := [d1, d2, d3] }
  | _ => none }
def SnapSealsWrongFalsely : Prop := snapSealsRow.holds Tryd.pinned (OpenSpec.ofChange snapSealsWrong)

/-- 'cachewiselaw16.SnapLengths': WHATEVER THE INPUT: true; the input reads as it did. -/
def snapLengthsSpec : ChangeSpec := { name := "snapLengths", fn := fun _ => fun
  | [d] => { results := [.lit (.bool true)], args := [d] }
  | _ => none }
def snapLengthsRow : OpenClaim := { program := "ytggeppmiifkikaadoor", sum := "b37e7f8234afbc4ec68b5a6e7cd3ffeede8d485259042301a320f2db207a43da", func := "cachewise/cachewiselaw16.SnapLengths", spec := "snapLengths", inPlace := ["internal/abi.NoEscape", "internal/reflectlite.ValueOf", "(internal/reflectlite.Value).Type", "(internal/reflectlite.Value).IsNil", "internal/reflectlite.TypeOf", "(internal/reflectlite.Value).Elem", "(internal/reflectlite.Value).Set"], unfollowed := true, recurses := true, named := ["errors.errorType"], apart := false, laid := [("errors.errorType", laid_errors_errorType)] }
def SnapLengthsSaid : Prop := snapLengthsRow.holds Tryd.pinned (OpenSpec.ofChange snapLengthsSpec)

/-- ITS FALSE NEIGHBOUR: 'it returns false'. Refute it at one input. -/
def snapLengthsWrong : ChangeSpec := { name := "snapLengths", fn := fun _ => fun
  | [d] => { results := [.lit (.bool false)], args := [d] }
  | _ => none }
def SnapLengthsWrongFalsely : Prop := snapLengthsRow.holds Tryd.pinned (OpenSpec.ofChange snapLengthsWrong)

/-- 'cachewiselaw16.SnapFewer': WHATEVER THE INPUT: true; the input reads as it did. -/
def snapFewerSpec : ChangeSpec := { name := "snapFewer", fn := fun _ => fun
  | [d1, d2, d3, d4] => { results := [.lit (.bool true)], args := [d1, d2, d3, d4] }
  | _ => none }
def snapFewerRow : OpenClaim := { program := "ytggeppmiifkikaadoor", sum := "b37e7f8234afbc4ec68b5a6e7cd3ffeede8d485259042301a320f2db207a43da", func := "cachewise/cachewiselaw16.SnapFewer", spec := "snapFewer", inPlace := ["internal/abi.NoEscape", "internal/reflectlite.ValueOf", "(internal/reflectlite.Value).Type", "(internal/reflectlite.Value).IsNil", "internal/reflectlite.TypeOf", "(internal/reflectlite.Value).Elem", "(internal/reflectlite.Value).Set"], unfollowed := true, recurses := true, named := ["errors.errorType"], apart := false, laid := [("errors.errorType", laid_errors_errorType)] }
def SnapFewerSaid : Prop := snapFewerRow.holds Tryd.pinned (OpenSpec.ofChange snapFewerSpec)

/-- ITS FALSE NEIGHBOUR: 'it returns false'. Refute it at one input. -/
def snapFewerWrong : ChangeSpec := { name := "snapFewer", fn := fun _ => fun
  | [d1, d2, d3, d4] => { results := [.lit (.bool false)], args := [d1, d2, d3, d4] }
  | _ => none }
def SnapFewerWrongFalsely : Prop := snapFewerRow.holds Tryd.pinned (OpenSpec.ofChange snapFewerWrong)

/-- 'cachewiselaw16.SnapFaults': WHATEVER THE INPUT: true; the input reads as it did. -/
def snapFaultsSpec : ChangeSpec := { name := "snapFaults", fn := fun _ => fun
  | [d] => { results := [.lit (.bool true)], args := [d] }
  | _ => none }
def snapFaultsRow : OpenClaim := { program := "ytggeppmiifkikaadoor", sum := "b37e7f8234afbc4ec68b5a6e7cd3ffeede8d485259042301a320f2db207a43da", func := "cachewise/cachewiselaw16.SnapFaults", spec := "snapFaults", inPlace := ["internal/abi.NoEscape", "internal/reflectlite.ValueOf", "(internal/reflectlite.Value).Type", "(internal/reflectlite.Value).IsNil", "internal/reflectlite.TypeOf", "(internal/reflectlite.Value).Elem", "(internal/reflectlite.Value).Set"], unfollowed := true, recurses := true, named := ["errors.errorType"], apart := false, laid := [("errors.errorType", laid_errors_errorType)] }
def SnapFaultsSaid : Prop := snapFaultsRow.holds Tryd.pinned (OpenSpec.ofChange snapFaultsSpec)

/-- ITS FALSE NEIGHBOUR: 'it returns false'. Refute it at one input. -/
def snapFaultsWrong : ChangeSpec := { name := "snapFaults", fn := fun _ => fun
  | [d] => { results := [.lit (.bool false)], args := [d] }
  | _ => none }
def SnapFaultsWrongFalsely : Prop := snapFaultsRow.holds Tryd.pinned (OpenSpec.ofChange snapFaultsWrong)

/- THE SECOND FORM. 'bulk': how many values and letters a reading holds, each counted each time it is reached (what is shared counts as often as it is met; a slice's spare places count too). A statement '..UptoSaid' is the law's where the arguments, and the package variables that the reading takes, are together of bulk at most 1048576: NARROWER than '..Said'. Prove '..Said' where nothing that the law and all that it calls make is longer than what came in: it says more and counts as full. Else prove '..UptoSaid'. A law counts once. -/
mutual
def uptoBulk {H : Type} : DataW H → Nat
  | .lit (.string bytes) => bytes.length + 1
  | .lit _ => 1
  | .nil => 1
  | .ptr d => uptoBulk d + 1
  | .slice elems spare => uptoBulkAll elems + uptoBulkAll spare + 1
  | .agg parts => uptoBulkAll parts + 1
  | .iface _ d => uptoBulk d + 1
  | .map entries => uptoBulkEntries entries + 1
  | .held _ => 1
def uptoBulkAll {H : Type} : List (DataW H) → Nat
  | [] => 0
  | d :: r => uptoBulk d + uptoBulkAll r
def uptoBulkEntries {H : Type} : List (Lit × DataW H) → Nat
  | [] => 0
  | x :: r => uptoBulkEntry x + uptoBulkEntries r
def uptoBulkEntry {H : Type} : Lit × DataW H → Nat
  | (.string bytes, d) => bytes.length + uptoBulk d + 1
  | (_, d) => uptoBulk d + 1
 end
def uptoSmall : (H : Type) → List (DataW H) → Bool := fun _ ds => decide (uptoBulkAll ds ≤ 1048576)
def OpenSpec.upto (s : _root_.Go.ChangeSpec) : _root_.Go.OpenSpec := { _root_.Go.OpenSpec.ofChange s with cond := some uptoSmall }

/-- 'cachewiselaw16.SnapTells', WHERE WHAT IT READS IS OF BULK AT MOST 1048576: true; the input reads as it did. -/
def snapTellsUptoRow : OpenClaim := { program := "ytggeppmiifkikaadoor", sum := "b37e7f8234afbc4ec68b5a6e7cd3ffeede8d485259042301a320f2db207a43da", func := "cachewise/cachewiselaw16.SnapTells", spec := "snapTells", inPlace := ["internal/abi.NoEscape", "internal/reflectlite.ValueOf", "(internal/reflectlite.Value).Type", "(internal/reflectlite.Value).IsNil", "internal/reflectlite.TypeOf", "(internal/reflectlite.Value).Elem", "(internal/reflectlite.Value).Set"], unfollowed := true, recurses := true, named := ["errors.errorType"], apart := false, laid := [("errors.errorType", laid_errors_errorType)], narrowed := true }
def SnapTellsUptoSaid : Prop := snapTellsUptoRow.holds Tryd.pinned (OpenSpec.upto snapTellsSpec)

/-- 'cachewiselaw16.SnapBack', WHERE WHAT IT READS IS OF BULK AT MOST 1048576: true; the input reads as it did. -/
def snapBackUptoRow : OpenClaim := { program := "ytggeppmiifkikaadoor", sum := "b37e7f8234afbc4ec68b5a6e7cd3ffeede8d485259042301a320f2db207a43da", func := "cachewise/cachewiselaw16.SnapBack", spec := "snapBack", inPlace := ["internal/abi.NoEscape", "internal/reflectlite.ValueOf", "(internal/reflectlite.Value).Type", "(internal/reflectlite.Value).IsNil", "internal/reflectlite.TypeOf", "(internal/reflectlite.Value).Elem", "(internal/reflectlite.Value).Set"], unfollowed := true, recurses := true, named := ["errors.errorType"], apart := false, laid := [("errors.errorType", laid_errors_errorType)], narrowed := true }
def SnapBackUptoSaid : Prop := snapBackUptoRow.holds Tryd.pinned (OpenSpec.upto snapBackSpec)

/-- 'cachewiselaw16.SnapSeals', WHERE WHAT IT READS IS OF BULK AT MOST 1048576: true; the input reads as it did. -/
def snapSealsUptoRow : OpenClaim := { program := "ytggeppmiifkikaadoor", sum := "b37e7f8234afbc4ec68b5a6e7cd3ffeede8d485259042301a320f2db207a43da", func := "cachewise/cachewiselaw16.SnapSeals", spec := "snapSeals", inPlace := ["internal/abi.NoEscape", "internal/reflectlite.ValueOf", "(internal/reflectlite.Value).Type", "(internal/reflectlite.Value).IsNil", "internal/reflectlite.TypeOf", "(internal/reflectlite.Value).Elem", "(internal/reflectlite.Value).Set"], unfollowed := true, recurses := true, named := ["errors.errorType"], apart := false, laid := [("errors.errorType", laid_errors_errorType)], narrowed := true }
def SnapSealsUptoSaid : Prop := snapSealsUptoRow.holds Tryd.pinned (OpenSpec.upto snapSealsSpec)

/-- 'cachewiselaw16.SnapLengths', WHERE WHAT IT READS IS OF BULK AT MOST 1048576: true; the input reads as it did. -/
def snapLengthsUptoRow : OpenClaim := { program := "ytggeppmiifkikaadoor", sum := "b37e7f8234afbc4ec68b5a6e7cd3ffeede8d485259042301a320f2db207a43da", func := "cachewise/cachewiselaw16.SnapLengths", spec := "snapLengths", inPlace := ["internal/abi.NoEscape", "internal/reflectlite.ValueOf", "(internal/reflectlite.Value).Type", "(internal/reflectlite.Value).IsNil", "internal/reflectlite.TypeOf", "(internal/reflectlite.Value).Elem", "(internal/reflectlite.Value).Set"], unfollowed := true, recurses := true, named := ["errors.errorType"], apart := false, laid := [("errors.errorType", laid_errors_errorType)], narrowed := true }
def SnapLengthsUptoSaid : Prop := snapLengthsUptoRow.holds Tryd.pinned (OpenSpec.upto snapLengthsSpec)

/-- 'cachewiselaw16.SnapFewer', WHERE WHAT IT READS IS OF BULK AT MOST 1048576: true; the input reads as it did. -/
def snapFewerUptoRow : OpenClaim := { program := "ytggeppmiifkikaadoor", sum := "b37e7f8234afbc4ec68b5a6e7cd3ffeede8d485259042301a320f2db207a43da", func := "cachewise/cachewiselaw16.SnapFewer", spec := "snapFewer", inPlace := ["internal/abi.NoEscape", "internal/reflectlite.ValueOf", "(internal/reflectlite.Value).Type", "(internal/reflectlite.Value).IsNil", "internal/reflectlite.TypeOf", "(internal/reflectlite.Value).Elem", "(internal/reflectlite.Value).Set"], unfollowed := true, recurses := true, named := ["errors.errorType"], apart := false, laid := [("errors.errorType", laid_errors_errorType)], narrowed := true }
def SnapFewerUptoSaid : Prop := snapFewerUptoRow.holds Tryd.pinned (OpenSpec.upto snapFewerSpec)

/-- 'cachewiselaw16.SnapFaults', WHERE WHAT IT READS IS OF BULK AT MOST 1048576: true; the input reads as it did. -/
def snapFaultsUptoRow : OpenClaim := { program := "ytggeppmiifkikaadoor", sum := "b37e7f8234afbc4ec68b5a6e7cd3ffeede8d485259042301a320f2db207a43da", func := "cachewise/cachewiselaw16.SnapFaults", spec := "snapFaults", inPlace := ["internal/abi.NoEscape", "internal/reflectlite.ValueOf", "(internal/reflectlite.Value).Type", "(internal/reflectlite.Value).IsNil", "internal/reflectlite.TypeOf", "(internal/reflectlite.Value).Elem", "(internal/reflectlite.Value).Set"], unfollowed := true, recurses := true, named := ["errors.errorType"], apart := false, laid := [("errors.errorType", laid_errors_errorType)], narrowed := true }
def SnapFaultsUptoSaid : Prop := snapFaultsUptoRow.holds Tryd.pinned (OpenSpec.upto snapFaultsSpec)

end Rows
end Go.Proofs.YtggeppmiifkikaaDoor
