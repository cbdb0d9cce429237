/-
  NARROWER THAN 'FOR EVERY INPUT', by the rows' own cells (each row's printed sentence says how): ChoosePlays: laid · ChooseBest: laid · ChooseHolds: laid · ChooseAlike: laid · ChooseFirst: laid.
  DERIVED. THE GIVEN ROWS OF THIS SEAT. 5 by the template 'for every input the law returns true; each argument reads behind the call as it read before'; 0 by the template 'total and deterministic' (their statements: YtkkkjjoknabopaaDoorTotals.lean).
  GIVEN WITH THE SEED: the statements are not yours to turn. If you find one false, say at which input.
  Laid BY PROGRAM, IN A SANDBOX (cutbox-rows.mjs): the forced cells as the released guide's own fill.sh prints them over the translation 5ed1a08229008516… (all of the seat's roots in one cut). By AI agents, Wed Nov 11 2026. No macro, syntax, notation, axiom, sorry.
-/
import Derived.Test.YtkkkjjoknabopaaDoorChecked
import GoSem.Claim
import GoSem.ClaimJoined
import GoSem.ClaimMapViews
import Derived.JoinedTies
import Derived.KernelRfl
namespace Go.Proofs.YtkkkjjoknabopaaDoor
/- THE CELL 'sum', in the pinned program and in every row, IS THE sha256 OF THE DUMP (.gsa) THAT YtkkkjjoknabopaaDoorProg.lean LOADS. Nothing in Lean hashes anything: it is a label: what it is worth is what the hold of that sum in a sandbox is worth. -/
noncomputable def Tryd.pinned : Pinned := { name := "ytkkkjjoknabopaadoor", sum := "5ed1a08229008516f36f08e37de20ba90fdff85a11fa868b3f253e1c8477537c", checked := Tryd.checked }
namespace Rows
def none {H : Type} : Left H := { results := [], args := [] }

/- WHAT THE LISTED PACKAGE-LEVEL VARIABLES READ AS WHEN THE CALL BEGINS. Each datum BY PROGRAM (the guide's laid-datum.mjs) off the statement by which the dump's own 'gosem.cut.vars' lays the variable. In a bare row this is a premise. The card (YtkkkjjoknabopaaDoorCards.lean) ties it to the program's text. -/
def laid_errors_errorType {H : Type} : DataW H := .iface "internal/reflectlite.rtype" (.agg [.ptr (.lit (.string [101, 114, 114, 111, 114]))])

/-- 'cachewiselaw13.ChoosePlays': WHATEVER THE INPUT: true; the input reads as it did. -/
def choosePlaysSpec : ChangeSpec := { name := "choosePlays", fn := fun _ => fun
  | [d1, d2, d3] => { results := [.lit (.bool true)], args := [d1, d2, d3] }
  | _ => none }
def choosePlaysRow : OpenClaim := { program := "ytkkkjjoknabopaadoor", sum := "5ed1a08229008516f36f08e37de20ba90fdff85a11fa868b3f253e1c8477537c", func := "cachewise/cachewiselaw13.ChoosePlays", spec := "choosePlays", inPlace := ["internal/reflectlite.ValueOf", "(internal/reflectlite.Value).Type", "(internal/reflectlite.Value).IsNil", "internal/reflectlite.TypeOf", "(internal/reflectlite.Value).Elem", "(internal/reflectlite.Value).Set"], unfollowed := true, recurses := true, named := ["errors.errorType"], apart := false, laid := [("errors.errorType", laid_errors_errorType)] }
def ChoosePlaysSaid : Prop := choosePlaysRow.holds Tryd.pinned (OpenSpec.ofChange choosePlaysSpec)

/-- ITS FALSE NEIGHBOUR: 'it returns false'. Refute it at one input. -/
def choosePlaysWrong : ChangeSpec := { name := "choosePlays", fn := fun _ => fun
  | [d1, d2, d3] => { results := [.lit (.bool false)], args := [d1, d2, d3] }
  | _ => none }
def ChoosePlaysWrongFalsely : Prop := choosePlaysRow.holds Tryd.pinned (OpenSpec.ofChange choosePlaysWrong)

/-- 'cachewiselaw13.ChooseBest': WHATEVER THE INPUT: true; the input reads as it did. -/
def chooseBestSpec : ChangeSpec := { name := "chooseBest", fn := fun _ => fun
  | [d1, d2, d3] => { results := [.lit (.bool true)], args := [d1, d2, d3] }
  | _ => none }
def chooseBestRow : OpenClaim := { program := "ytkkkjjoknabopaadoor", sum := "5ed1a08229008516f36f08e37de20ba90fdff85a11fa868b3f253e1c8477537c", func := "cachewise/cachewiselaw13.ChooseBest", spec := "chooseBest", inPlace := ["internal/reflectlite.ValueOf", "(internal/reflectlite.Value).Type", "(internal/reflectlite.Value).IsNil", "internal/reflectlite.TypeOf", "(internal/reflectlite.Value).Elem", "(internal/reflectlite.Value).Set"], unfollowed := true, recurses := true, named := ["errors.errorType"], apart := false, laid := [("errors.errorType", laid_errors_errorType)] }
def ChooseBestSaid : Prop := chooseBestRow.holds Tryd.pinned (OpenSpec.ofChange chooseBestSpec)

/-- ITS FALSE NEIGHBOUR: 'it returns false'. Refute it at one input. -/
def chooseBestWrong : ChangeSpec := { name := "chooseBest", fn := fun _ => fun
  | [d1, d2, d3] => { results := [.lit (.bool false)], args := [d1, d2, d3] }
  | _ => none }
def ChooseBestWrongFalsely : Prop := chooseBestRow.holds Tryd.pinned (OpenSpec.ofChange chooseBestWrong)

/-- 'cachewiselaw13.ChooseHolds': WHATEVER THE INPUT: true; the input reads as it did. -/
def chooseHoldsSpec : ChangeSpec := { name := "chooseHolds", fn := fun _ => fun
  | [d1, d2, d3] => { results := [.lit (.bool true)], args := [d1, d2, d3] }
  | _ => none }
def chooseHoldsRow : OpenClaim := { program := "ytkkkjjoknabopaadoor", sum := "5ed1a08229008516f36f08e37de20ba90fdff85a11fa868b3f253e1c8477537c", func := "cachewise/cachewiselaw13.ChooseHolds", spec := "chooseHolds", inPlace := ["internal/reflectlite.ValueOf", "(internal/reflectlite.Value).Type", "(internal/reflectlite.Value).IsNil", "internal/reflectlite.TypeOf", "(internal/reflectlite.Value).Elem", "(internal/reflectlite.Value).Set"], unfollowed := true, recurses := true, named := ["errors.errorType"], apart := false, laid := [("errors.errorType", laid_errors_errorType)] }
def ChooseHoldsSaid : Prop := chooseHoldsRow.holds Tryd.pinned (OpenSpec.ofChange chooseHoldsSpec)

/-- ITS FALSE NEIGHBOUR: 'it returns false'. Refute it at one input. -/
def chooseHoldsWrong : ChangeSpec := { name := "chooseHolds", fn := fun _ => fun
  | [d1, d2, d3] => { results := [.lit (.bool false)], args := [d1, d2, d3] }
  | _ => none }
def ChooseHoldsWrongFalsely : Prop := chooseHoldsRow.holds Tryd.pinned (OpenSpec.ofChange chooseHoldsWrong)

/-- 'cachewiselaw13.ChooseAlike': WHATEVER THE INPUT: true; the input reads as it did. -/
def chooseAlikeSpec : ChangeSpec := { name := "chooseAlike", fn := fun _ => fun
  | [d1, d2, d3, d4] => { results := [.lit (.bool true)], args := [d1, d2, d3, d4] }
  | _ => none }
def chooseAlikeRow : OpenClaim := { program := "ytkkkjjoknabopaadoor", sum := "5ed1a08229008516f36f08e37de20ba90fdff85a11fa868b3f253e1c8477537c", func := "cachewise/cachewiselaw13.ChooseAlike", spec := "chooseAlike", inPlace := ["internal/reflectlite.ValueOf", "(internal/reflectlite.Value).Type", "(internal/reflectlite.Value).IsNil", "internal/reflectlite.TypeOf", "(internal/reflectlite.Value).Elem", "(internal/reflectlite.Value).Set"], unfollowed := true, recurses := true, named := ["errors.errorType"], apart := false, laid := [("errors.errorType", laid_errors_errorType)] }
def ChooseAlikeSaid : Prop := chooseAlikeRow.holds Tryd.pinned (OpenSpec.ofChange chooseAlikeSpec)

/-- ITS FALSE NEIGHBOUR: 'it returns false'. Refute it at one input. -/
def chooseAlikeWrong : ChangeSpec := { name := "chooseAlike", fn := fun _ => fun
  | [d1, d2, d3, d4] => { results := [.lit (.bool false)], args := [d1, d2, d3, d4] }
  | _ => none }
def ChooseAlikeWrongFalsely : Prop := chooseAlikeRow.holds Tryd.pinned (OpenSpec.ofChange chooseAlikeWrong)

/-- 'cachewiselaw13.ChooseFirst': WHATEVER THE INPUT: true; the input reads as it did. -/
def chooseFirstSpec : ChangeSpec := { name := "chooseFirst", fn := fun _ => fun
  | [d1, d2] => { results := [.lit (.bool true)], args := [d1, d2] }
  | _ => none }
def chooseFirstRow : OpenClaim := { program := "ytkkkjjoknabopaadoor", sum := "5ed1a08229008516f36f08e37de20ba90fdff85a11fa868b3f253e1c8477537c", func := "cachewise/cachewiselaw13.ChooseFirst", spec := "chooseFirst", inPlace := ["internal/reflectlite.ValueOf", "(internal/reflectlite.Value).Type", "(internal/reflectlite.Value).IsNil", "internal/reflectlite.TypeOf", "(internal/reflectlite.Value).Elem", "(internal/reflectlite.Value).Set"], unfollowed := true, recurses := true, named := ["errors.errorType"], apart := false, laid := [("errors.errorType", laid_errors_errorType)] }
def ChooseFirstSaid : Prop := chooseFirstRow.holds Tryd.pinned (OpenSpec.ofChange chooseFirstSpec)

/-- ITS FALSE NEIGHBOUR: 'it returns false'. Refute it at one input. -/
def chooseFirstWrong : ChangeSpec := { name := "chooseFirst", fn := fun _ => fun
  | [d1, d2] => { results := [.lit (.bool false)], args := [d1, d2] }
  | _ => none }
def ChooseFirstWrongFalsely : Prop := chooseFirstRow.holds Tryd.pinned (OpenSpec.ofChange chooseFirstWrong)

/- THE SECOND FORM. 'bulk': how many values and letters a reading holds, each counted each time it is reached (what is shared counts as often as it is met; a slice's spare places count too). A statement '..UptoSaid' is the law's where the arguments, and the package variables that the reading takes, are together of bulk at most 1048576: NARROWER than '..Said'. Prove '..Said' where nothing that the law and all that it calls make is longer than what came in: it says more and counts as full. Else prove '..UptoSaid'. A law counts once. -/
mutual
def uptoBulk {H : Type} : DataW H → Nat
  | .lit (.string bytes) => bytes.length + 1
  | .lit _ => 1
  | .nil => 1
  | .ptr d => uptoBulk d + 1
  | .slice elems spare => uptoBulkAll elems + uptoBulkAll spare + 1
  | .agg parts => uptoBulkAll parts + 1
  | .iface _ d => uptoBulk d + 1
  | .map entries => uptoBulkEntries entries + 1
  | .held _ => 1
def uptoBulkAll {H : Type} : List (DataW H) → Nat
  | [] => 0
  | d :: r => uptoBulk d + uptoBulkAll r
def uptoBulkEntries {H : Type} : List (Lit × DataW H) → Nat
  | [] => 0
  | x :: r => uptoBulkEntry x + uptoBulkEntries r
def uptoBulkEntry {H : Type} : Lit × DataW H → Nat
  | (.string bytes, d) => bytes.length + uptoBulk d + 1
  | (_, d) => uptoBulk d + 1
 end
def uptoSmall : (H : Type) → List (DataW H) → Bool := fun _ ds => decide (uptoBulkAll ds ≤ 1048576)
def OpenSpec.upto (s : _root_.Go.ChangeSpec) : _root_.Go.OpenSpec := { _root_.Go.OpenSpec.ofChange s with cond := some uptoSmall }

/-- 'cachewiselaw13.ChoosePlays', WHERE WHAT IT READS IS OF BULK AT MOST 1048576: true; the input reads as it did. -/
def choosePlaysUptoRow : OpenClaim := { program := "ytkkkjjoknabopaadoor", sum := "5ed1a08229008516f36f08e37de20ba90fdff85a11fa868b3f253e1c8477537c", func := "cachewise/cachewiselaw13.ChoosePlays", spec := "choosePlays", inPlace := ["internal/reflectlite.ValueOf", "(internal/reflectlite.Value).Type", "(internal/reflectlite.Value).IsNil", "internal/reflectlite.TypeOf", "(internal/reflectlite.Value).Elem", "(internal/reflectlite.Value).Set"], unfollowed := true, recurses := true, named := ["errors.errorType"], apart := false, laid := [("errors.errorType", laid_errors_errorType)], narrowed := true }
def ChoosePlaysUptoSaid : Prop := choosePlaysUptoRow.holds Tryd.pinned (OpenSpec.upto choosePlaysSpec)

/-- 'cachewiselaw13.ChooseBest', WHERE WHAT IT READS IS OF BULK AT MOST 1048576: true; the input reads as it did. -/
def chooseBestUptoRow : OpenClaim := { program := "ytkkkjjoknabopaadoor", sum := "5ed1a08229008516f36f08e37de20ba90fdff85a11fa868b3f253e1c8477537c", func := "cachewise/cachewiselaw13.ChooseBest", spec := "chooseBest", inPlace := ["internal/reflectlite.ValueOf", "(internal/reflectlite.Value).Type", "(internal/reflectlite.Value).IsNil", "internal/reflectlite.TypeOf", "(internal/reflectlite.Value).Elem", "(internal/reflectlite.Value).Set"], unfollowed := true, recurses := true, named := ["errors.errorType"], apart := false, laid := [("errors.errorType", laid_errors_errorType)], narrowed := true }
def ChooseBestUptoSaid : Prop := chooseBestUptoRow.holds Tryd.pinned (OpenSpec.upto chooseBestSpec)

/-- 'cachewiselaw13.ChooseHolds', WHERE WHAT IT READS IS OF BULK AT MOST 1048576: true; the input reads as it did. -/
def chooseHoldsUptoRow : OpenClaim := { program := "ytkkkjjoknabopaadoor", sum := "5ed1a08229008516f36f08e37de20ba90fdff85a11fa868b3f253e1c8477537c", func := "cachewise/cachewiselaw13.ChooseHolds", spec := "chooseHolds", inPlace := ["internal/reflectlite.ValueOf", "(internal/reflectlite.Value).Type", "(internal/reflectlite.Value).IsNil", "internal/reflectlite.TypeOf", "(internal/reflectlite.Value).Elem", "(internal/reflectlite.Value).Set"], unfollowed := true, recurses := true, named := ["errors.errorType"], apart := false, laid := [("errors.errorType", laid_errors_errorType)], narrowed := true }
def ChooseHoldsUptoSaid : Prop := chooseHoldsUptoRow.holds Tryd.pinned (OpenSpec.upto chooseHoldsSpec)

/-- 'cachewiselaw13.ChooseAlike', WHERE WHAT IT READS IS OF BULK AT MOST 1048576: true; the input reads as it did. -/
def chooseAlikeUptoRow : OpenClaim := { program := "ytkkkjjoknabopaadoor", sum := "5ed1a08229008516f36f08e37de20ba90fdff85a11fa868b3f253e1c8477537c", func := "cachewise/cachewiselaw13.ChooseAlike", spec := "chooseAlike", inPlace := ["internal/reflectlite.ValueOf", "(internal/reflectlite.Value).Type", "(internal/reflectlite.Value).IsNil", "internal/reflectlite.TypeOf", "(internal/reflectlite.Value).Elem", "(internal/reflectlite.Value).Set"], unfollowed := true, recurses := true, named := ["errors.errorType"], apart := false, laid := [("errors.errorType", laid_errors_errorType)], narrowed := true }
def ChooseAlikeUptoSaid : Prop := chooseAlikeUptoRow.holds Tryd.pinned (OpenSpec.upto chooseAlikeSpec)

/-- 'cachewiselaw13.ChooseFirst', WHERE WHAT IT READS IS OF BULK AT MOST 1048576: true; the input reads as it did. -/
def chooseFirstUptoRow : OpenClaim := { program := "ytkkkjjoknabopaadoor", sum := "5ed1a08229008516f36f08e37de20ba90fdff85a11fa868b3f253e1c8477537c", func := "cachewise/cachewiselaw13.ChooseFirst", spec := "chooseFirst", inPlace := ["internal/reflectlite.ValueOf", "(internal/reflectlite.Value).Type", "(internal/reflectlite.Value).IsNil", "internal/reflectlite.TypeOf", "(internal/reflectlite.Value).Elem", "(internal/reflectlite.Value).Set"], unfollowed := true, recurses := true, named := ["errors.errorType"], apart := false, laid := [("errors.errorType", laid_errors_errorType)], narrowed := true }
def ChooseFirstUptoSaid : Prop := chooseFirstUptoRow.holds Tryd.pinned (OpenSpec.upto chooseFirstSpec)

end Rows
end Go.Proofs.YtkkkjjoknabopaaDoor
