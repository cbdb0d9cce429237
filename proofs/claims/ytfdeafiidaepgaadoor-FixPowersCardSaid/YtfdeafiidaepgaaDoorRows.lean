/-
  NARROWER THAN 'FOR EVERY INPUT', by the rows' own cells (each row's printed sentence says how): FixTells: laid · FixGrows: laid · FixOrder: laid · FixPowers: laid · FixShares: laid · FixSums: laid · FixWholes: laid · FixRaises: laid · FixFaults: laid.
  DERIVED. THE GIVEN ROWS OF THIS SEAT. 9 by the template 'for every input the law returns true; each argument reads behind the call as it read before'; 0 by the template 'total and deterministic' (their statements: YtfdeafiidaepgaaDoorTotals.lean).
  GIVEN WITH THE SEED: the statements are not yours to turn. If you find one false, say at which input.
  Laid BY PROGRAM, IN A SANDBOX (cutbox-rows.mjs): the forced cells as the released guide's own fill.sh prints them over the translation 240e8ee5f1879cb4… (all of the seat's roots in one cut). By AI agents, Wed Nov 11 2026. No macro, syntax, notation, axiom, sorry.
-/
import Derived.Test.YtfdeafiidaepgaaDoorChecked
import GoSem.Claim
import GoSem.ClaimJoined
import GoSem.ClaimMapViews
import Derived.JoinedTies
import Derived.KernelRfl
namespace Go.Proofs.YtfdeafiidaepgaaDoor
/- THE CELL 'sum', in the pinned program and in every row, IS THE sha256 OF THE DUMP (.gsa) THAT YtfdeafiidaepgaaDoorProg.lean LOADS. Nothing in Lean hashes anything: it is a label: what it is worth is what the hold of that sum in a sandbox is worth. -/
noncomputable def Tryd.pinned : Pinned := { name := "ytfdeafiidaepgaadoor", sum := "240e8ee5f1879cb467ee10bce9a742bb1aec4316cdf137dc881e1412bca873a7", checked := Tryd.checked }
namespace Rows
def none {H : Type} : Left H := { results := [], args := [] }

/- WHAT THE LISTED PACKAGE-LEVEL VARIABLES READ AS WHEN THE CALL BEGINS. Each datum BY PROGRAM (the guide's laid-datum.mjs) off the statement by which the dump's own 'gosem.cut.vars' lays the variable. In a bare row this is a premise. The card (YtfdeafiidaepgaaDoorCards.lean) ties it to the program's text. -/
def laid_errors_errorType {H : Type} : DataW H := .iface "internal/reflectlite.rtype" (.agg [.ptr (.lit (.string [101, 114, 114, 111, 114]))])

/-- 'cachewiselaw01.FixTells': WHATEVER THE INPUT: true; the input reads as it did. -/
def fixTellsSpec : ChangeSpec := { name := "fixTells", fn := fun _ => fun
  | [d1, d2, d3, d4] => { results := [.lit (.bool true)], args := [d1, d2, d3, d4] }
  | _ => none }
def fixTellsRow : OpenClaim := { program := "ytfdeafiidaepgaadoor", sum := "240e8ee5f1879cb467ee10bce9a742bb1aec4316cdf137dc881e1412bca873a7", func := "cachewise/cachewiselaw01.FixTells", spec := "fixTells", inPlace := ["math/bits.Add64", "internal/reflectlite.ValueOf", "(internal/reflectlite.Value).Type", "(internal/reflectlite.Value).IsNil", "internal/reflectlite.TypeOf", "(internal/reflectlite.Value).Elem", "(internal/reflectlite.Value).Set"], unfollowed := true, recurses := true, named := ["math/bits.divideError", "math/bits.overflowError", "errors.errorType"], apart := false, laid := [("errors.errorType", laid_errors_errorType)] }
def FixTellsSaid : Prop := fixTellsRow.holds Tryd.pinned (OpenSpec.ofChange fixTellsSpec)

/-- ITS FALSE NEIGHBOUR: 'it returns false'. Refute it at one input. -/
def fixTellsWrong : ChangeSpec := { name := "fixTells", fn := fun _ => fun
  | [d1, d2, d3, d4] => { results := [.lit (.bool false)], args := [d1, d2, d3, d4] }
  | _ => none }
def FixTellsWrongFalsely : Prop := fixTellsRow.holds Tryd.pinned (OpenSpec.ofChange fixTellsWrong)

/-- 'cachewiselaw01.FixGrows': WHATEVER THE INPUT: true; the input reads as it did. -/
def fixGrowsSpec : ChangeSpec := { name := "fixGrows", fn := fun _ => fun
  | [d1, d2, d3, d4] => { results := [.lit (.bool true)], args := [d1, d2, d3, d4] }
  | _ => none }
def fixGrowsRow : OpenClaim := { program := "ytfdeafiidaepgaadoor", sum := "240e8ee5f1879cb467ee10bce9a742bb1aec4316cdf137dc881e1412bca873a7", func := "cachewise/cachewiselaw01.FixGrows", spec := "fixGrows", inPlace := ["math/bits.Add64", "internal/reflectlite.ValueOf", "(internal/reflectlite.Value).Type", "(internal/reflectlite.Value).IsNil", "internal/reflectlite.TypeOf", "(internal/reflectlite.Value).Elem", "(internal/reflectlite.Value).Set"], unfollowed := true, recurses := true, named := ["math/bits.divideError", "math/bits.overflowError", "errors.errorType"], apart := false, laid := [("errors.errorType", laid_errors_errorType)] }
def FixGrowsSaid : Prop := fixGrowsRow.holds Tryd.pinned (OpenSpec.ofChange fixGrowsSpec)

/-- ITS FALSE NEIGHBOUR: 'it returns false'. Refute it at one input. -/
def fixGrowsWrong : ChangeSpec := { name := "fixGrows", fn := fun _ => fun
  | [d1, d2, d3, d4] => { results := [.lit (.bool false)], args := [d1, d2, d3, d4] }
  | _ => none }
def FixGrowsWrongFalsely : Prop := fixGrowsRow.holds Tryd.pinned (OpenSpec.ofChange fixGrowsWrong)

/-- 'cachewiselaw01.FixOrder': WHATEVER THE INPUT: true; the input reads as it did. -/
def fixOrderSpec : ChangeSpec := { name := "fixOrder", fn := fun _ => fun
  | [d1, d2, d3] => { results := [.lit (.bool true)], args := [d1, d2, d3] }
  | _ => none }
def fixOrderRow : OpenClaim := { program := "ytfdeafiidaepgaadoor", sum := "240e8ee5f1879cb467ee10bce9a742bb1aec4316cdf137dc881e1412bca873a7", func := "cachewise/cachewiselaw01.FixOrder", spec := "fixOrder", inPlace := ["math/bits.Add64", "internal/reflectlite.ValueOf", "(internal/reflectlite.Value).Type", "(internal/reflectlite.Value).IsNil", "internal/reflectlite.TypeOf", "(internal/reflectlite.Value).Elem", "(internal/reflectlite.Value).Set"], unfollowed := true, recurses := true, named := ["math/bits.divideError", "math/bits.overflowError", "errors.errorType"], apart := false, laid := [("errors.errorType", laid_errors_errorType)] }
def FixOrderSaid : Prop := fixOrderRow.holds Tryd.pinned (OpenSpec.ofChange fixOrderSpec)

/-- ITS FALSE NEIGHBOUR: 'it returns false'. Refute it at one input. -/
def fixOrderWrong : ChangeSpec := { name := "fixOrder", fn := fun _ => fun
  | [d1, d2, d3] => { results := [.lit (.bool false)], args := [d1, d2, d3] }
  | _ => none }
def FixOrderWrongFalsely : Prop := fixOrderRow.holds Tryd.pinned (OpenSpec.ofChange fixOrderWrong)

/-- 'cachewiselaw01.FixPowers': WHATEVER THE INPUT: true; the input reads as it did. -/
def fixPowersSpec : ChangeSpec := { name := "fixPowers", fn := fun _ => fun
  | [d1, d2, d3] => { results := [.lit (.bool true)], args := [d1, d2, d3] }
  | _ => none }
def fixPowersRow : OpenClaim := { program := "ytfdeafiidaepgaadoor", sum := "240e8ee5f1879cb467ee10bce9a742bb1aec4316cdf137dc881e1412bca873a7", func := "cachewise/cachewiselaw01.FixPowers", spec := "fixPowers", inPlace := ["math/bits.Add64", "internal/reflectlite.ValueOf", "(internal/reflectlite.Value).Type", "(internal/reflectlite.Value).IsNil", "internal/reflectlite.TypeOf", "(internal/reflectlite.Value).Elem", "(internal/reflectlite.Value).Set"], unfollowed := true, recurses := true, named := ["math/bits.divideError", "math/bits.overflowError", "errors.errorType"], apart := false, laid := [("errors.errorType", laid_errors_errorType)] }
def FixPowersSaid : Prop := fixPowersRow.holds Tryd.pinned (OpenSpec.ofChange fixPowersSpec)

/-- ITS FALSE NEIGHBOUR: 'it returns false'. Refute it at one input. -/
def fixPowersWrong : ChangeSpec := { name := "fixPowers", fn := fun _ => fun
  | [d1, d2, d3] => { results := [.lit (.bool false)], args := [d1, d2, d3] }
  | _ => none }
def FixPowersWrongFalsely : Prop := fixPowersRow.holds Tryd.pinned (OpenSpec.ofChange fixPowersWrong)

/-- 'cachewiselaw01.FixShares': WHATEVER THE INPUT: true; the input reads as it did. -/
def fixSharesSpec : ChangeSpec := { name := "fixShares", fn := fun _ => fun
  | [d1, d2, d3] => { results := [.lit (.bool true)], args := [d1, d2, d3] }
  | _ => none }
def fixSharesRow : OpenClaim := { program := "ytfdeafiidaepgaadoor", sum := "240e8ee5f1879cb467ee10bce9a742bb1aec4316cdf137dc881e1412bca873a7", func := "cachewise/cachewiselaw01.FixShares", spec := "fixShares", inPlace := ["math/bits.Add64", "internal/reflectlite.ValueOf", "(internal/reflectlite.Value).Type", "(internal/reflectlite.Value).IsNil", "internal/reflectlite.TypeOf", "(internal/reflectlite.Value).Elem", "(internal/reflectlite.Value).Set"], unfollowed := true, recurses := true, named := ["math/bits.divideError", "math/bits.overflowError", "errors.errorType"], apart := false, laid := [("errors.errorType", laid_errors_errorType)] }
def FixSharesSaid : Prop := fixSharesRow.holds Tryd.pinned (OpenSpec.ofChange fixSharesSpec)

/-- ITS FALSE NEIGHBOUR: 'it returns false'. Refute it at one input. -/
def fixSharesWrong : ChangeSpec := { name := "fixShares", fn := fun _ => fun
  | [d1, d2, d3] => { results := [.lit (.bool false)], args := [d1, d2, d3] }
  | _ => none }
def FixSharesWrongFalsely : Prop := fixSharesRow.holds Tryd.pinned (OpenSpec.ofChange fixSharesWrong)

/-- 'cachewiselaw01.FixSums': WHATEVER THE INPUT: true; the input reads as it did. -/
def fixSumsSpec : ChangeSpec := { name := "fixSums", fn := fun _ => fun
  | [d1, d2, d3] => { results := [.lit (.bool true)], args := [d1, d2, d3] }
  | _ => none }
def fixSumsRow : OpenClaim := { program := "ytfdeafiidaepgaadoor", sum := "240e8ee5f1879cb467ee10bce9a742bb1aec4316cdf137dc881e1412bca873a7", func := "cachewise/cachewiselaw01.FixSums", spec := "fixSums", inPlace := ["math/bits.Add64", "internal/reflectlite.ValueOf", "(internal/reflectlite.Value).Type", "(internal/reflectlite.Value).IsNil", "internal/reflectlite.TypeOf", "(internal/reflectlite.Value).Elem", "(internal/reflectlite.Value).Set"], unfollowed := true, recurses := true, named := ["math/bits.divideError", "math/bits.overflowError", "errors.errorType"], apart := false, laid := [("errors.errorType", laid_errors_errorType)] }
def FixSumsSaid : Prop := fixSumsRow.holds Tryd.pinned (OpenSpec.ofChange fixSumsSpec)

/-- ITS FALSE NEIGHBOUR: 'it returns false'. Refute it at one input. -/
def fixSumsWrong : ChangeSpec := { name := "fixSums", fn := fun _ => fun
  | [d1, d2, d3] => { results := [.lit (.bool false)], args := [d1, d2, d3] }
  | _ => none }
def FixSumsWrongFalsely : Prop := fixSumsRow.holds Tryd.pinned (OpenSpec.ofChange fixSumsWrong)

/-- 'cachewiselaw01.FixWholes': WHATEVER THE INPUT: true; the input reads as it did. -/
def fixWholesSpec : ChangeSpec := { name := "fixWholes", fn := fun _ => fun
  | [d1, d2, d3] => { results := [.lit (.bool true)], args := [d1, d2, d3] }
  | _ => none }
def fixWholesRow : OpenClaim := { program := "ytfdeafiidaepgaadoor", sum := "240e8ee5f1879cb467ee10bce9a742bb1aec4316cdf137dc881e1412bca873a7", func := "cachewise/cachewiselaw01.FixWholes", spec := "fixWholes", inPlace := ["math/bits.Add64", "internal/reflectlite.ValueOf", "(internal/reflectlite.Value).Type", "(internal/reflectlite.Value).IsNil", "internal/reflectlite.TypeOf", "(internal/reflectlite.Value).Elem", "(internal/reflectlite.Value).Set"], unfollowed := true, recurses := true, named := ["math/bits.divideError", "math/bits.overflowError", "errors.errorType"], apart := false, laid := [("errors.errorType", laid_errors_errorType)] }
def FixWholesSaid : Prop := fixWholesRow.holds Tryd.pinned (OpenSpec.ofChange fixWholesSpec)

/-- ITS FALSE NEIGHBOUR: 'it returns false'. Refute it at one input. -/
def fixWholesWrong : ChangeSpec := { name := "fixWholes", fn := fun _ => fun
  | [d1, d2, d3] => { results := [.lit (.bool false)], args := [d1, d2, d3] }
  | _ => none }
def FixWholesWrongFalsely : Prop := fixWholesRow.holds Tryd.pinned (OpenSpec.ofChange fixWholesWrong)

/-- 'cachewiselaw01.FixRaises': WHATEVER THE INPUT: true; the input reads as it did. -/
def fixRaisesSpec : ChangeSpec := { name := "fixRaises", fn := fun _ => fun
  | [d1, d2] => { results := [.lit (.bool true)], args := [d1, d2] }
  | _ => none }
def fixRaisesRow : OpenClaim := { program := "ytfdeafiidaepgaadoor", sum := "240e8ee5f1879cb467ee10bce9a742bb1aec4316cdf137dc881e1412bca873a7", func := "cachewise/cachewiselaw01.FixRaises", spec := "fixRaises", inPlace := ["math/bits.Add64", "internal/reflectlite.ValueOf", "(internal/reflectlite.Value).Type", "(internal/reflectlite.Value).IsNil", "internal/reflectlite.TypeOf", "(internal/reflectlite.Value).Elem", "(internal/reflectlite.Value).Set"], unfollowed := true, recurses := true, named := ["math/bits.divideError", "math/bits.overflowError", "errors.errorType"], apart := false, laid := [("errors.errorType", laid_errors_errorType)] }
def FixRaisesSaid : Prop := fixRaisesRow.holds Tryd.pinned (OpenSpec.ofChange fixRaisesSpec)

/-- ITS FALSE NEIGHBOUR: 'it returns false'. Refute it at one input. -/
def fixRaisesWrong : ChangeSpec := { name := "fixRaises", fn := fun _ => fun
  | [d1, d2] => { results := [.lit (.bool false)], args := [d1, d2] }
  | _ => none }
def FixRaisesWrongFalsely : Prop := fixRaisesRow.holds Tryd.pinned (OpenSpec.ofChange fixRaisesWrong)

/-- 'cachewiselaw01.FixFaults': WHATEVER THE INPUT: true; the input reads as it did. -/
def fixFaultsSpec : ChangeSpec := { name := "fixFaults", fn := fun _ => fun
  | [d1, d2] => { results := [.lit (.bool true)], args := [d1, d2] }
  | _ => none }
def fixFaultsRow : OpenClaim := { program := "ytfdeafiidaepgaadoor", sum := "240e8ee5f1879cb467ee10bce9a742bb1aec4316cdf137dc881e1412bca873a7", func := "cachewise/cachewiselaw01.FixFaults", spec := "fixFaults", inPlace := ["math/bits.Add64", "internal/reflectlite.ValueOf", "(internal/reflectlite.Value).Type", "(internal/reflectlite.Value).IsNil", "internal/reflectlite.TypeOf", "(internal/reflectlite.Value).Elem", "(internal/reflectlite.Value).Set"], unfollowed := true, recurses := true, named := ["math/bits.divideError", "math/bits.overflowError", "errors.errorType"], apart := false, laid := [("errors.errorType", laid_errors_errorType)] }
def FixFaultsSaid : Prop := fixFaultsRow.holds Tryd.pinned (OpenSpec.ofChange fixFaultsSpec)

/-- ITS FALSE NEIGHBOUR: 'it returns false'. Refute it at one input. -/
def fixFaultsWrong : ChangeSpec := { name := "fixFaults", fn := fun _ => fun
  | [d1, d2] => { results := [.lit (.bool false)], args := [d1, d2] }
  | _ => none }
def FixFaultsWrongFalsely : Prop := fixFaultsRow.holds Tryd.pinned (OpenSpec.ofChange fixFaultsWrong)

/- THE SECOND FORM. 'bulk': how many values and letters a reading holds, each counted each time it is reached (what is shared counts as often as it is met; a slice's spare places count too). A statement '..UptoSaid' is the law's where the arguments, and the package variables that the reading takes, are together of bulk at most 1048576: NARROWER than '..Said'. Prove '..Said' where nothing that the law and all that it calls make is longer than what came in: it says more and counts as full. Else prove '..UptoSaid'. A law counts once. -/
mutual
def uptoBulk {H : Type} : DataW H → Nat
  | .lit (.string bytes) => bytes.length + 1
  | .lit _ => 1
  | .nil => 1
  | .ptr d => uptoBulk d + 1
  | .slice elems spare => uptoBulkAll elems + uptoBulkAll spare + 1
  | .agg parts => uptoBulkAll parts + 1
  | .iface _ d => uptoBulk d + 1
  | .map entries => uptoBulkEntries entries + 1
  | .held _ => 1
def uptoBulkAll {H : Type} : List (DataW H) → Nat
  | [] => 0
  | d :: r => uptoBulk d + uptoBulkAll r
def uptoBulkEntries {H : Type} : List (Lit × DataW H) → Nat
  | [] => 0
  | x :: r => uptoBulkEntry x + uptoBulkEntries r
def uptoBulkEntry {H : Type} : Lit × DataW H → Nat
  | (.string bytes, d) => bytes.length + uptoBulk d + 1
  | (_, d) => uptoBulk d + 1
 end
def uptoSmall : (H : Type) → List (DataW H) → Bool := fun _ ds => decide (uptoBulkAll ds ≤ 1048576)
def OpenSpec.upto (s : _root_.Go.ChangeSpec) : _root_.Go.OpenSpec := { _root_.Go.OpenSpec.ofChange s with cond := some uptoSmall }

/-- 'cachewiselaw01.FixTells', WHERE WHAT IT READS IS OF BULK AT MOST 1048576: true; the input reads as it did. -/
def fixTellsUptoRow : OpenClaim := { program := "ytfdeafiidaepgaadoor", sum := "240e8ee5f1879cb467ee10bce9a742bb1aec4316cdf137dc881e1412bca873a7", func := "cachewise/cachewiselaw01.FixTells", spec := "fixTells", inPlace := ["math/bits.Add64", "internal/reflectlite.ValueOf", "(internal/reflectlite.Value).Type", "(internal/reflectlite.Value).IsNil", "internal/reflectlite.TypeOf", "(internal/reflectlite.Value).Elem", "(internal/reflectlite.Value).Set"], unfollowed := true, recurses := true, named := ["math/bits.divideError", "math/bits.overflowError", "errors.errorType"], apart := false, laid := [("errors.errorType", laid_errors_errorType)], narrowed := true }
def FixTellsUptoSaid : Prop := fixTellsUptoRow.holds Tryd.pinned (OpenSpec.upto fixTellsSpec)

/-- 'cachewiselaw01.FixGrows', WHERE WHAT IT READS IS OF BULK AT MOST 1048576: true; the input reads as it did. -/
def fixGrowsUptoRow : OpenClaim := { program := "ytfdeafiidaepgaadoor", sum := "240e8ee5f1879cb467ee10bce9a742bb1aec4316cdf137dc881e1412bca873a7", func := "cachewise/cachewiselaw01.FixGrows", spec := "fixGrows", inPlace := ["math/bits.Add64", "internal/reflectlite.ValueOf", "(internal/reflectlite.Value).Type", "(internal/reflectlite.Value).IsNil", "internal/reflectlite.TypeOf", "(internal/reflectlite.Value).Elem", "(internal/reflectlite.Value).Set"], unfollowed := true, recurses := true, named := ["math/bits.divideError", "math/bits.overflowError", "errors.errorType"], apart := false, laid := [("errors.errorType", laid_errors_errorType)], narrowed := true }
def FixGrowsUptoSaid : Prop := fixGrowsUptoRow.holds Tryd.pinned (OpenSpec.upto fixGrowsSpec)

/-- 'cachewiselaw01.FixOrder', WHERE WHAT IT READS IS OF BULK AT MOST 1048576: true; the input reads as it did. -/
def fixOrderUptoRow : OpenClaim := { program := "ytfdeafiidaepgaadoor", sum := "240e8ee5f1879cb467ee10bce9a742bb1aec4316cdf137dc881e1412bca873a7", func := "cachewise/cachewiselaw01.FixOrder", spec := "fixOrder", inPlace := ["math/bits.Add64", "internal/reflectlite.ValueOf", "(internal/reflectlite.Value).Type", "(internal/reflectlite.Value).IsNil", "internal/reflectlite.TypeOf", "(internal/reflectlite.Value).Elem", "(internal/reflectlite.Value).Set"], unfollowed := true, recurses := true, named := ["math/bits.divideError", "math/bits.overflowError", "errors.errorType"], apart := false, laid := [("errors.errorType", laid_errors_errorType)], narrowed := true }
def FixOrderUptoSaid : Prop := fixOrderUptoRow.holds Tryd.pinned (OpenSpec.upto fixOrderSpec)

/-- 'cachewiselaw01.FixPowers', WHERE WHAT IT READS IS OF BULK AT MOST 1048576: true; the input reads as it did. -/
def fixPowersUptoRow : OpenClaim := { program := "ytfdeafiidaepgaadoor", sum := "240e8ee5f1879cb467ee10bce9a742bb1aec4316cdf137dc881e1412bca873a7", func := "cachewise/cachewiselaw01.FixPowers", spec := "fixPowers", inPlace := ["math/bits.Add64", "internal/reflectlite.ValueOf", "(internal/reflectlite.Value).Type", "(internal/reflectlite.Value).IsNil", "internal/reflectlite.TypeOf", "(internal/reflectlite.Value).Elem", "(internal/reflectlite.Value).Set"], unfollowed := true, recurses := true, named := ["math/bits.divideError", "math/bits.overflowError", "errors.errorType"], apart := false, laid := [("errors.errorType", laid_errors_errorType)], narrowed := true }
def FixPowersUptoSaid : Prop := fixPowersUptoRow.holds Tryd.pinned (OpenSpec.upto fixPowersSpec)

/-- 'cachewiselaw01.FixShares', WHERE WHAT IT READS IS OF BULK AT MOST 1048576: true; the input reads as it did. -/
def fixSharesUptoRow : OpenClaim := { program := "ytfdeafiidaepgaadoor", sum := "240e8ee5f1879cb467ee10bce9a742bb1aec4316cdf137dc881e1412bca873a7", func := "cachewise/cachewiselaw01.FixShares", spec := "fixShares", inPlace := ["math/bits.Add64", "internal/reflectlite.ValueOf", "(internal/reflectlite.Value).Type", "(internal/reflectlite.Value).IsNil", "internal/reflectlite.TypeOf", "(internal/reflectlite.Value).Elem", "(internal/reflectlite.Value).Set"], unfollowed := true, recurses := true, named := ["math/bits.divideError", "math/bits.overflowError", "errors.errorType"], apart := false, laid := [("errors.errorType", laid_errors_errorType)], narrowed := true }
def FixSharesUptoSaid : Prop := fixSharesUptoRow.holds Tryd.pinned (OpenSpec.upto fixSharesSpec)

/-- 'cachewiselaw01.FixSums', WHERE WHAT IT READS IS OF BULK AT MOST 1048576: true; the input reads as it did. -/
def fixSumsUptoRow : OpenClaim := { program := "ytfdeafiidaepgaadoor", sum := "240e8ee5f1879cb467ee10bce9a742bb1aec4316cdf137dc881e1412bca873a7", func := "cachewise/cachewiselaw01.FixSums", spec := "fixSums", inPlace := ["math/bits.Add64", "internal/reflectlite.ValueOf", "(internal/reflectlite.Value).Type", "(internal/reflectlite.Value).IsNil", "internal/reflectlite.TypeOf", "(internal/reflectlite.Value).Elem", "(internal/reflectlite.Value).Set"], unfollowed := true, recurses := true, named := ["math/bits.divideError", "math/bits.overflowError", "errors.errorType"], apart := false, laid := [("errors.errorType", laid_errors_errorType)], narrowed := true }
def FixSumsUptoSaid : Prop := fixSumsUptoRow.holds Tryd.pinned (OpenSpec.upto fixSumsSpec)

/-- 'cachewiselaw01.FixWholes', WHERE WHAT IT READS IS OF BULK AT MOST 1048576: true; the input reads as it did. -/
def fixWholesUptoRow : OpenClaim := { program := "ytfdeafiidaepgaadoor", sum := "240e8ee5f1879cb467ee10bce9a742bb1aec4316cdf137dc881e1412bca873a7", func := "cachewise/cachewiselaw01.FixWholes", spec := "fixWholes", inPlace := ["math/bits.Add64", "internal/reflectlite.ValueOf", "(internal/reflectlite.Value).Type", "(internal/reflectlite.Value).IsNil", "internal/reflectlite.TypeOf", "(internal/reflectlite.Value).Elem", "(internal/reflectlite.Value).Set"], unfollowed := true, recurses := true, named := ["math/bits.divideError", "math/bits.overflowError", "errors.errorType"], apart := false, laid := [("errors.errorType", laid_errors_errorType)], narrowed := true }
def FixWholesUptoSaid : Prop := fixWholesUptoRow.holds Tryd.pinned (OpenSpec.upto fixWholesSpec)

/-- 'cachewiselaw01.FixRaises', WHERE WHAT IT READS IS OF BULK AT MOST 1048576: true; the input reads as it did. -/
def fixRaisesUptoRow : OpenClaim := { program := "ytfdeafiidaepgaadoor", sum := "240e8ee5f1879cb467ee10bce9a742bb1aec4316cdf137dc881e1412bca873a7", func := "cachewise/cachewiselaw01.FixRaises", spec := "fixRaises", inPlace := ["math/bits.Add64", "internal/reflectlite.ValueOf", "(internal/reflectlite.Value).Type", "(internal/reflectlite.Value).IsNil", "internal/reflectlite.TypeOf", "(internal/reflectlite.Value).Elem", "(internal/reflectlite.Value).Set"], unfollowed := true, recurses := true, named := ["math/bits.divideError", "math/bits.overflowError", "errors.errorType"], apart := false, laid := [("errors.errorType", laid_errors_errorType)], narrowed := true }
def FixRaisesUptoSaid : Prop := fixRaisesUptoRow.holds Tryd.pinned (OpenSpec.upto fixRaisesSpec)

/-- 'cachewiselaw01.FixFaults', WHERE WHAT IT READS IS OF BULK AT MOST 1048576: true; the input reads as it did. -/
def fixFaultsUptoRow : OpenClaim := { program := "ytfdeafiidaepgaadoor", sum := "240e8ee5f1879cb467ee10bce9a742bb1aec4316cdf137dc881e1412bca873a7", func := "cachewise/cachewiselaw01.FixFaults", spec := "fixFaults", inPlace := ["math/bits.Add64", "internal/reflectlite.ValueOf", "(internal/reflectlite.Value).Type", "(internal/reflectlite.Value).IsNil", "internal/reflectlite.TypeOf", "(internal/reflectlite.Value).Elem", "(internal/reflectlite.Value).Set"], unfollowed := true, recurses := true, named := ["math/bits.divideError", "math/bits.overflowError", "errors.errorType"], apart := false, laid := [("errors.errorType", laid_errors_errorType)], narrowed := true }
def FixFaultsUptoSaid : Prop := fixFaultsUptoRow.holds Tryd.pinned (OpenSpec.upto fixFaultsSpec)

end Rows
end Go.Proofs.YtfdeafiidaepgaaDoor
