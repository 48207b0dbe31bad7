/-
  NARROWER THAN 'FOR EVERY INPUT', by the rows' own cells (each row's printed sentence says how): KeepTotal: laid · KeepAge: laid · KeepBoth: laid · KeepLocal: laid · KeepOpen: laid · KeepMore: laid.
  DERIVED. THE GIVEN ROWS OF THIS SEAT. 6 by the template 'for every input the law returns true; each argument reads behind the call as it read before'; 0 by the template 'total and deterministic' (their statements: YtnbggdpbgibpoaaDoorTotals.lean).
  GIVEN WITH THE SEED: the statements are not yours to turn. If you find one false, say at which input.
  Laid BY PROGRAM, IN A SANDBOX (cutbox-rows.mjs): the forced cells as the released guide's own fill.sh prints them over the translation eebb59e50a000454… (all of the seat's roots in one cut). By AI agents, Wed Nov 11 2026. No macro, syntax, notation, axiom, sorry.
-/
import Derived.Test.YtnbggdpbgibpoaaDoorChecked
import GoSem.Claim
import GoSem.ClaimJoined
import GoSem.ClaimMapViews
import Derived.JoinedTies
import Derived.KernelRfl
namespace Go.Proofs.YtnbggdpbgibpoaaDoor
/- THE CELL 'sum', in the pinned program and in every row, IS THE sha256 OF THE DUMP (.gsa) THAT YtnbggdpbgibpoaaDoorProg.lean LOADS. Nothing in Lean hashes anything: it is a label: what it is worth is what the hold of that sum in a sandbox is worth. -/
noncomputable def Tryd.pinned : Pinned := { name := "ytnbggdpbgibpoaadoor", sum := "eebb59e50a000454f1d7b56cee9a18a11c40f7e14a595a297325d64f9e489cd6", checked := Tryd.checked }
namespace Rows
def none {H : Type} : Left H := { results := [], args := [] }

/- WHAT THE LISTED PACKAGE-LEVEL VARIABLES READ AS WHEN THE CALL BEGINS. Each datum BY PROGRAM (the guide's laid-datum.mjs) off the statement by which the dump's own 'gosem.cut.vars' lays the variable. In a bare row this is a premise. The card (YtnbggdpbgibpoaaDoorCards.lean) ties it to the program's text. -/
def laid_cordwood_api_ErrShape {H : Type} : DataW H := .iface "*errors.errorString" (.ptr (.agg [.lit (.string [110, 111, 116, 32, 97, 115, 32, 105, 116, 32, 104, 97, 115, 32, 116, 111, 32, 98, 101])]))
def laid_cordwood_api_ErrRange {H : Type} : DataW H := .iface "*errors.errorString" (.ptr (.agg [.lit (.string [97, 32, 110, 117, 109, 98, 101, 114, 32, 111, 117, 116, 32, 111, 102, 32, 105, 116, 115, 32, 114, 97, 110, 103, 101])]))
def laid_cordwood_api_ErrEnd {H : Type} : DataW H := .iface "*errors.errorString" (.ptr (.agg [.lit (.string [105, 116, 32, 101, 110, 100, 115, 32, 116, 111, 111, 32, 101, 97, 114, 108, 121])]))
def laid_cordwood_api_ErrSum {H : Type} : DataW H := .iface "*errors.errorString" (.ptr (.agg [.lit (.string [116, 104, 101, 32, 115, 117, 109, 32, 105, 115, 32, 97, 110, 111, 116, 104, 101, 114, 32, 111, 110, 101])]))
def laid_cordwood_api_ErrMany {H : Type} : DataW H := .iface "*errors.errorString" (.ptr (.agg [.lit (.string [116, 111, 111, 32, 109, 97, 110, 121])]))
def laid_cordwood_api_ErrName {H : Type} : DataW H := .iface "*errors.errorString" (.ptr (.agg [.lit (.string [110, 111, 32, 110, 97, 109, 101, 32, 116, 104, 97, 116, 32, 109, 97, 121, 32, 98, 101])]))
def laid_cordwood_api_ErrNone {H : Type} : DataW H := .iface "*errors.errorString" (.ptr (.agg [.lit (.string [116, 104, 101, 114, 101, 32, 105, 115, 32, 110, 111, 110, 101])]))
def laid_cordwood_api_ErrThere {H : Type} : DataW H := .iface "*errors.errorString" (.ptr (.agg [.lit (.string [116, 104, 101, 114, 101, 32, 105, 115, 32, 111, 110, 101])]))
def laid_cordwood_api_ErrFull {H : Type} : DataW H := .iface "*errors.errorString" (.ptr (.agg [.lit (.string [116, 104, 101, 114, 101, 32, 105, 115, 32, 110, 111, 32, 114, 111, 111, 109])]))
def laid_cordwood_api_ErrCrash {H : Type} : DataW H := .iface "*errors.errorString" (.ptr (.agg [.lit (.string [116, 104, 101, 32, 112, 111, 119, 101, 114, 32, 105, 115, 32, 103, 111, 110, 101])]))
def laid_cordwood_api_ErrStore {H : Type} : DataW H := .iface "*errors.errorString" (.ptr (.agg [.lit (.string [116, 104, 101, 32, 115, 116, 111, 114, 101, 32, 100, 111, 101, 115, 32, 110, 111, 116, 32, 97, 110, 115, 119, 101, 114])]))
def laid_cordwood_api_ErrKind {H : Type} : DataW H := .iface "*errors.errorString" (.ptr (.agg [.lit (.string [110, 111, 32, 115, 117, 99, 104, 32, 107, 105, 110, 100])]))
def laid_cordwood_api_ErrState {H : Type} : DataW H := .iface "*errors.errorString" (.ptr (.agg [.lit (.string [110, 111, 116, 32, 105, 110, 32, 116, 104, 105, 115, 32, 115, 116, 97, 116, 101])]))
def laid_cordwood_api_ErrFenced {H : Type} : DataW H := .iface "*errors.errorString" (.ptr (.agg [.lit (.string [97, 110, 32, 101, 108, 100, 101, 114, 32, 101, 112, 111, 99, 104])]))
def laid_cordwood_api_ErrOutside {H : Type} : DataW H := .iface "*errors.errorString" (.ptr (.agg [.lit (.string [110, 111, 32, 115, 117, 99, 104, 32, 111, 102, 102, 115, 101, 116])]))
def laid_cordwood_api_ErrUnavail {H : Type} : DataW H := .iface "*errors.errorString" (.ptr (.agg [.lit (.string [110, 111, 116, 32, 116, 111, 32, 98, 101, 32, 104, 97, 100, 32, 110, 111, 119])]))
def laid_cordwood_api_ErrWord {H : Type} : DataW H := .iface "*errors.errorString" (.ptr (.agg [.lit (.string [110, 111, 32, 115, 117, 99, 104, 32, 119, 111, 114, 100])]))
def laid_cordwood_api_ErrNumber {H : Type} : DataW H := .iface "*errors.errorString" (.ptr (.agg [.lit (.string [110, 111, 32, 115, 117, 99, 104, 32, 110, 117, 109, 98, 101, 114])]))
def laid_cordwood_api_ErrClosed {H : Type} : DataW H := .iface "*errors.errorString" (.ptr (.agg [.lit (.string [105, 116, 32, 105, 115, 32, 99, 108, 111, 115, 101, 100])]))

/-- 'cordwoodlaw22.KeepTotal': WHATEVER THE INPUT: true; the input reads as it did. -/
def keepTotalSpec : ChangeSpec := { name := "keepTotal", fn := fun _ => fun
  | [d1, d2, d3] => { results := [.lit (.bool true)], args := [d1, d2, d3] }
  | _ => none }
def keepTotalRow : OpenClaim := { program := "ytnbggdpbgibpoaadoor", sum := "eebb59e50a000454f1d7b56cee9a18a11c40f7e14a595a297325d64f9e489cd6", func := "cordwood/cordwoodlaw22.KeepTotal", spec := "keepTotal", unfollowed := true, recurses := true, named := ["cordwood/api.ErrRange", "cordwood/api.ErrShape"], apart := false, laid := [("cordwood/api.ErrShape", laid_cordwood_api_ErrShape), ("cordwood/api.ErrRange", laid_cordwood_api_ErrRange)] }
def KeepTotalSaid : Prop := keepTotalRow.holds Tryd.pinned (OpenSpec.ofChange keepTotalSpec)

/-- ITS FALSE NEIGHBOUR: 'it returns false'. Refute it at one input. -/
def keepTotalWrong : ChangeSpec := { name := "keepTotal", fn := fun _ => fun
  | [d1, d2, d3] => { results := [.lit (.bool false)], args := [d1, d2, d3] }
  | _ => none }
def KeepTotalWrongFalsely : Prop := keepTotalRow.holds Tryd.pinned (OpenSpec.ofChange keepTotalWrong)

/-- 'cordwoodlaw22.KeepAge': WHATEVER THE INPUT: true; the input reads as it did. -/
def keepAgeSpec : ChangeSpec := { name := "keepAge", fn := fun _ => fun
  | [d1, d2, d3] => { results := [.lit (.bool true)], args := [d1, d2, d3] }
  | _ => none }
def keepAgeRow : OpenClaim := { program := "ytnbggdpbgibpoaadoor", sum := "eebb59e50a000454f1d7b56cee9a18a11c40f7e14a595a297325d64f9e489cd6", func := "cordwood/cordwoodlaw22.KeepAge", spec := "keepAge", unfollowed := true, recurses := true, named := ["cordwood/api.ErrRange", "cordwood/api.ErrShape"], apart := false, laid := [("cordwood/api.ErrShape", laid_cordwood_api_ErrShape), ("cordwood/api.ErrRange", laid_cordwood_api_ErrRange)] }
def KeepAgeSaid : Prop := keepAgeRow.holds Tryd.pinned (OpenSpec.ofChange keepAgeSpec)

/-- ITS FALSE NEIGHBOUR: 'it returns false'. Refute it at one input. -/
def keepAgeWrong : ChangeSpec := { name := "keepAge", fn := fun _ => fun
  | [d1, d2, d3] => { results := [.lit (.bool false)], args := [d1, d2, d3] }
  | _ => none }
def KeepAgeWrongFalsely : Prop := keepAgeRow.holds Tryd.pinned (OpenSpec.ofChange keepAgeWrong)

/-- 'cordwoodlaw22.KeepBoth': WHATEVER THE INPUT: true; the input reads as it did. -/
def keepBothSpec : ChangeSpec := { name := "keepBoth", fn := fun _ => fun
  | [d1, d2, d3, d4] => { results := [.lit (.bool true)], args := [d1, d2, d3, d4] }
  | _ => none }
def keepBothRow : OpenClaim := { program := "ytnbggdpbgibpoaadoor", sum := "eebb59e50a000454f1d7b56cee9a18a11c40f7e14a595a297325d64f9e489cd6", func := "cordwood/cordwoodlaw22.KeepBoth", spec := "keepBoth", unfollowed := true, recurses := true, named := ["cordwood/api.ErrRange", "cordwood/api.ErrShape"], apart := false, laid := [("cordwood/api.ErrShape", laid_cordwood_api_ErrShape), ("cordwood/api.ErrRange", laid_cordwood_api_ErrRange)] }
def KeepBothSaid : Prop := keepBothRow.holds Tryd.pinned (OpenSpec.ofChange keepBothSpec)

/-- ITS FALSE NEIGHBOUR: 'it returns false'. Refute it at one input. -/
def keepBothWrong : ChangeSpec := { name := "keepBoth", fn := fun _ => fun
  | [d1, d2, d3, d4] => { results := [.lit (.bool false)], args := [d1, d2, d3, d4] }
  | _ => none }
def KeepBothWrongFalsely : Prop := keepBothRow.holds Tryd.pinned (OpenSpec.ofChange keepBothWrong)

/-- 'cordwoodlaw22.KeepLocal': WHATEVER THE INPUT: true; the input reads as it did. -/
def keepLocalSpec : ChangeSpec := { name := "keepLocal", fn := fun _ => fun
  | [d1, d2, d3, d4] => { results := [.lit (.bool true)], args := [d1, d2, d3, d4] }
  | _ => none }
def keepLocalRow : OpenClaim := { program := "ytnbggdpbgibpoaadoor", sum := "eebb59e50a000454f1d7b56cee9a18a11c40f7e14a595a297325d64f9e489cd6", func := "cordwood/cordwoodlaw22.KeepLocal", spec := "keepLocal", unfollowed := true, recurses := true, named := ["cordwood/api.ErrRange", "cordwood/api.ErrShape"], apart := false, laid := [("cordwood/api.ErrShape", laid_cordwood_api_ErrShape), ("cordwood/api.ErrRange", laid_cordwood_api_ErrRange)] }
def KeepLocalSaid : Prop := keepLocalRow.holds Tryd.pinned (OpenSpec.ofChange keepLocalSpec)

/-- ITS FALSE NEIGHBOUR: 'it returns false'. Refute it at one input. -/
def keepLocalWrong : ChangeSpec := { name := "keepLocal", fn := fun _ => fun
  | [d1, d2, d3, d4] => { results := [.lit (.bool false)], args := [d1, d2, d3, d4] }
  | _ => none }
def KeepLocalWrongFalsely : Prop := keepLocalRow.holds Tryd.pinned (OpenSpec.ofChange keepLocalWrong)

/-- 'cordwoodlaw22.KeepOpen': WHATEVER THE INPUT: true; the input reads as it did. -/
def keepOpenSpec : ChangeSpec := { name := "keepOpen", fn := fun _ => fun
  | [d1, d2, d3] => { results := [.lit (.bool true)], args := [d1, d2, d3] }
  | _ => none }
def keepOpenRow : OpenClaim := { program := "ytnbggdpbgibpoaadoor", sum := "eebb59e50a000454f1d7b56cee9a18a11c40f7e14a595a297325d64f9e489cd6", func := "cordwood/cordwoodlaw22.KeepOpen", spec := "keepOpen", unfollowed := true, recurses := true, named := ["cordwood/api.ErrRange", "cordwood/api.ErrShape", "cordwood/api.ErrEnd", "cordwood/api.ErrSum", "cordwood/api.ErrMany", "cordwood/api.ErrName", "cordwood/api.ErrNone", "cordwood/api.ErrThere", "cordwood/api.ErrFull", "cordwood/api.ErrCrash", "cordwood/api.ErrStore", "cordwood/api.ErrKind", "cordwood/api.ErrState", "cordwood/api.ErrFenced", "cordwood/api.ErrOutside", "cordwood/api.ErrUnavail", "cordwood/api.ErrWord", "cordwood/api.ErrNumber", "cordwood/api.ErrClosed"], apart := false, laid := [("cordwood/api.ErrEnd", laid_cordwood_api_ErrEnd), ("cordwood/api.ErrSum", laid_cordwood_api_ErrSum), ("cordwood/api.ErrShape", laid_cordwood_api_ErrShape), ("cordwood/api.ErrMany", laid_cordwood_api_ErrMany), ("cordwood/api.ErrRange", laid_cordwood_api_ErrRange), ("cordwood/api.ErrName", laid_cordwood_api_ErrName), ("cordwood/api.ErrNone", laid_cordwood_api_ErrNone), ("cordwood/api.ErrThere", laid_cordwood_api_ErrThere), ("cordwood/api.ErrFull", laid_cordwood_api_ErrFull), ("cordwood/api.ErrCrash", laid_cordwood_api_ErrCrash), ("cordwood/api.ErrStore", laid_cordwood_api_ErrStore), ("cordwood/api.ErrKind", laid_cordwood_api_ErrKind), ("cordwood/api.ErrState", laid_cordwood_api_ErrState), ("cordwood/api.ErrFenced", laid_cordwood_api_ErrFenced), ("cordwood/api.ErrOutside", laid_cordwood_api_ErrOutside), ("cordwood/api.ErrUnavail", laid_cordwood_api_ErrUnavail), ("cordwood/api.ErrWord", laid_cordwood_api_ErrWord), ("cordwood/api.ErrNumber", laid_cordwood_api_ErrNumber), ("cordwood/api.ErrClosed", laid_cordwood_api_ErrClosed)] }
def KeepOpenSaid : Prop := keepOpenRow.holds Tryd.pinned (OpenSpec.ofChange keepOpenSpec)

/-- ITS FALSE NEIGHBOUR: 'it returns false'. Refute it at one input. -/
def keepOpenWrong : ChangeSpec := { name := "keepOpen", fn := fun _ => fun
  | [d1, d2, d3] => { results := [.lit (.bool false)], args := [d1, d2, d3] }
  | _ => none }
def KeepOpenWrongFalsely : Prop := keepOpenRow.holds Tryd.pinned (OpenSpec.ofChange keepOpenWrong)

/-- 'cordwoodlaw22.KeepMore': WHATEVER THE INPUT: true; the input reads as it did. -/
def keepMoreSpec : ChangeSpec := { name := "keepMore", fn := fun _ => fun
  | [d1, d2, d3, d4] => { results := [.lit (.bool true)], args := [d1, d2, d3, d4] }
  | _ => none }
def keepMoreRow : OpenClaim := { program := "ytnbggdpbgibpoaadoor", sum := "eebb59e50a000454f1d7b56cee9a18a11c40f7e14a595a297325d64f9e489cd6", func := "cordwood/cordwoodlaw22.KeepMore", spec := "keepMore", unfollowed := true, recurses := true, named := ["cordwood/api.ErrRange", "cordwood/api.ErrShape"], apart := false, laid := [("cordwood/api.ErrShape", laid_cordwood_api_ErrShape), ("cordwood/api.ErrRange", laid_cordwood_api_ErrRange)] }
def KeepMoreSaid : Prop := keepMoreRow.holds Tryd.pinned (OpenSpec.ofChange keepMoreSpec)

/-- ITS FALSE NEIGHBOUR: 'it returns false'. Refute it at one input. -/
def keepMoreWrong : ChangeSpec := { name := "keepMore", fn := fun _ => fun
  | [d1, d2, d3, d4] => { results := [.lit (.bool false)], args := [d1, d2, d3, d4] }
  | _ => none }
def KeepMoreWrongFalsely : Prop := keepMoreRow.holds Tryd.pinned (OpenSpec.ofChange keepMoreWrong)

/- THE SECOND FORM. 'bulk': how many values and letters a reading holds, each counted each time it is reached (what is shared counts as often as it is met; a slice's spare places count too). A statement '..UptoSaid' is the law's where the arguments, and the package variables that the reading takes, are together of bulk at most 1048576: NARROWER than '..Said'. Prove '..Said' where nothing that the law and all that it calls make is longer than what came in: it says more and counts as full. Else prove '..UptoSaid'. A law counts once. -/
mutual
def uptoBulk {H : Type} : DataW H → Nat
  | .lit (.string bytes) => bytes.length + 1
  | .lit _ => 1
  | .nil => 1
  | .ptr d => uptoBulk d + 1
  | .slice elems spare => uptoBulkAll elems + uptoBulkAll spare + 1
  | .agg parts => uptoBulkAll parts + 1
  | .iface _ d => uptoBulk d + 1
  | .map entries => uptoBulkEntries entries + 1
  | .held _ => 1
def uptoBulkAll {H : Type} : List (DataW H) → Nat
  | [] => 0
  | d :: r => uptoBulk d + uptoBulkAll r
def uptoBulkEntries {H : Type} : List (Lit × DataW H) → Nat
  | [] => 0
  | x :: r => uptoBulkEntry x + uptoBulkEntries r
def uptoBulkEntry {H : Type} : Lit × DataW H → Nat
  | (.string bytes, d) => bytes.length + uptoBulk d + 1
  | (_, d) => uptoBulk d + 1
 end
def uptoSmall : (H : Type) → List (DataW H) → Bool := fun _ ds => decide (uptoBulkAll ds ≤ 1048576)
def OpenSpec.upto (s : _root_.Go.ChangeSpec) : _root_.Go.OpenSpec := { _root_.Go.OpenSpec.ofChange s with cond := some uptoSmall }

/-- 'cordwoodlaw22.KeepTotal', WHERE WHAT IT READS IS OF BULK AT MOST 1048576: true; the input reads as it did. -/
def keepTotalUptoRow : OpenClaim := { program := "ytnbggdpbgibpoaadoor", sum := "eebb59e50a000454f1d7b56cee9a18a11c40f7e14a595a297325d64f9e489cd6", func := "cordwood/cordwoodlaw22.KeepTotal", spec := "keepTotal", unfollowed := true, recurses := true, named := ["cordwood/api.ErrRange", "cordwood/api.ErrShape"], apart := false, laid := [("cordwood/api.ErrShape", laid_cordwood_api_ErrShape), ("cordwood/api.ErrRange", laid_cordwood_api_ErrRange)], narrowed := true }
def KeepTotalUptoSaid : Prop := keepTotalUptoRow.holds Tryd.pinned (OpenSpec.upto keepTotalSpec)

/-- 'cordwoodlaw22.KeepAge', WHERE WHAT IT READS IS OF BULK AT MOST 1048576: true; the input reads as it did. -/
def keepAgeUptoRow : OpenClaim := { program := "ytnbggdpbgibpoaadoor", sum := "eebb59e50a000454f1d7b56cee9a18a11c40f7e14a595a297325d64f9e489cd6", func := "cordwood/cordwoodlaw22.KeepAge", spec := "keepAge", unfollowed := true, recurses := true, named := ["cordwood/api.ErrRange", "cordwood/api.ErrShape"], apart := false, laid := [("cordwood/api.ErrShape", laid_cordwood_api_ErrShape), ("cordwood/api.ErrRange", laid_cordwood_api_ErrRange)], narrowed := true }
def KeepAgeUptoSaid : Prop := keepAgeUptoRow.holds Tryd.pinned (OpenSpec.upto keepAgeSpec)

/-- 'cordwoodlaw22.KeepBoth', WHERE WHAT IT READS IS OF BULK AT MOST 1048576: true; the input reads as it did. -/
def keepBothUptoRow : OpenClaim := { program := "ytnbggdpbgibpoaadoor", sum := "eebb59e50a000454f1d7b56cee9a18a11c40f7e14a595a297325d64f9e489cd6", func := "cordwood/cordwoodlaw22.KeepBoth", spec := "keepBoth", unfollowed := true, recurses := true, named := ["cordwood/api.ErrRange", "cordwood/api.ErrShape"], apart := false, laid := [("cordwood/api.ErrShape", laid_cordwood_api_ErrShape), ("cordwood/api.ErrRange", laid_cordwood_api_ErrRange)], narrowed := true }
def KeepBothUptoSaid : Prop := keepBothUptoRow.holds Tryd.pinned (OpenSpec.upto keepBothSpec)

/-- 'cordwoodlaw22.KeepLocal', WHERE WHAT IT READS IS OF BULK AT MOST 1048576: true; the input reads as it did. -/
def keepLocalUptoRow : OpenClaim := { program := "ytnbggdpbgibpoaadoor", sum := "eebb59e50a000454f1d7b56cee9a18a11c40f7e14a595a297325d64f9e489cd6", func := "cordwood/cordwoodlaw22.KeepLocal", spec := "keepLocal", unfollowed := true, recurses := true, named := ["cordwood/api.ErrRange", "cordwood/api.ErrShape"], apart := false, laid := [("cordwood/api.ErrShape", laid_cordwood_api_ErrShape), ("cordwood/api.ErrRange", laid_cordwood_api_ErrRange)], narrowed := true }
def KeepLocalUptoSaid : Prop := keepLocalUptoRow.holds Tryd.pinned (OpenSpec.upto keepLocalSpec)

/-- 'cordwoodlaw22.KeepOpen', WHERE WHAT IT READS IS OF BULK AT MOST 1048576: true; the input reads as it did. -/
def keepOpenUptoRow : OpenClaim := { program := "ytnbggdpbgibpoaadoor", sum := "eebb59e50a000454f1d7b56cee9a18a11c40f7e14a595a297325d64f9e489cd6", func := "cordwood/cordwoodlaw22.KeepOpen", spec := "keepOpen", unfollowed := true, recurses := true, named := ["cordwood/api.ErrRange", "cordwood/api.ErrShape", "cordwood/api.ErrEnd", "cordwood/api.ErrSum", "cordwood/api.ErrMany", "cordwood/api.ErrName", "cordwood/api.ErrNone", "cordwood/api.ErrThere", "cordwood/api.ErrFull", "cordwood/api.ErrCrash", "cordwood/api.ErrStore", "cordwood/api.ErrKind", "cordwood/api.ErrState", "cordwood/api.ErrFenced", "cordwood/api.ErrOutside", "cordwood/api.ErrUnavail", "cordwood/api.ErrWord", "cordwood/api.ErrNumber", "cordwood/api.ErrClosed"], apart := false, laid := [("cordwood/api.ErrEnd", laid_cordwood_api_ErrEnd), ("cordwood/api.ErrSum", laid_cordwood_api_ErrSum), ("cordwood/api.ErrShape", laid_cordwood_api_ErrShape), ("cordwood/api.ErrMany", laid_cordwood_api_ErrMany), ("cordwood/api.ErrRange", laid_cordwood_api_ErrRange), ("cordwood/api.ErrName", laid_cordwood_api_ErrName), ("cordwood/api.ErrNone", laid_cordwood_api_ErrNone), ("cordwood/api.ErrThere", laid_cordwood_api_ErrThere), ("cordwood/api.ErrFull", laid_cordwood_api_ErrFull), ("cordwood/api.ErrCrash", laid_cordwood_api_ErrCrash), ("cordwood/api.ErrStore", laid_cordwood_api_ErrStore), ("cordwood/api.ErrKind", laid_cordwood_api_ErrKind), ("cordwood/api.ErrState", laid_cordwood_api_ErrState), ("cordwood/api.ErrFenced", laid_cordwood_api_ErrFenced), ("cordwood/api.ErrOutside", laid_cordwood_api_ErrOutside), ("cordwood/api.ErrUnavail", laid_cordwood_api_ErrUnavail), ("cordwood/api.ErrWord", laid_cordwood_api_ErrWord), ("cordwood/api.ErrNumber", laid_cordwood_api_ErrNumber), ("cordwood/api.ErrClosed", laid_cordwood_api_ErrClosed)], narrowed := true }
def KeepOpenUptoSaid : Prop := keepOpenUptoRow.holds Tryd.pinned (OpenSpec.upto keepOpenSpec)

/-- 'cordwoodlaw22.KeepMore', WHERE WHAT IT READS IS OF BULK AT MOST 1048576: true; the input reads as it did. -/
def keepMoreUptoRow : OpenClaim := { program := "ytnbggdpbgibpoaadoor", sum := "eebb59e50a000454f1d7b56cee9a18a11c40f7e14a595a297325d64f9e489cd6", func := "cordwood/cordwoodlaw22.KeepMore", spec := "keepMore", unfollowed := true, recurses := true, named := ["cordwood/api.ErrRange", "cordwood/api.ErrShape"], apart := false, laid := [("cordwood/api.ErrShape", laid_cordwood_api_ErrShape), ("cordwood/api.ErrRange", laid_cordwood_api_ErrRange)], narrowed := true }
def KeepMoreUptoSaid : Prop := keepMoreUptoRow.holds Tryd.pinned (OpenSpec.upto keepMoreSpec)

end Rows
end Go.Proofs.YtnbggdpbgibpoaaDoor
