/-
  DERIVED. GIVEN WITH THE SEED: THE CARDS: each row of YtnbggdpbgibpoaaDoorRows.lean that lists a variable, with what it lists TIED to the program's text (the seventh form; the later family's looks); each row that meets fmt, with fmt's text TOLD by the authors' own Lean function (tested against real Go, not proved from fmt's source: count such statements apart). THE CARD IS WHAT COUNTS. Prove the row's statement (the work); the ties are given (YtnbggdpbgibpoaaDoorTie.lean); close each card by the builder's one call (the guide's Derived/Test/ToyasCard.lean, 'card_holds'). Laid BY PROGRAM, IN A SANDBOX (cutbox-door.mjs). By AI agents, Wed Nov 11 2026. No macro, syntax, notation, axiom, sorry.
-/
import Derived.Test.YtnbggdpbgibpoaaDoorRows
import GoSem.ClaimSeven
namespace Go.Proofs.YtnbggdpbgibpoaaDoor
namespace Rows

/-- THE TIED CARD OF 'cordwoodlaw22.KeepTotal'. -/
def keepTotalCard : Claim7 := { stood := { row := keepTotalRow, standIns := [], harness := (true, "bfbf51e73079d50ee2889920c97b428c265a04524dfc6bd01514a35f2ece3981"), looks := true }, kinds := [], alts := [], laidByText := true, laidKinds := [.sentinel, .sentinel], laidTests := true, laidLooks := .later }
def KeepTotalCardSaid : Prop := Claim7.holds Tryd.pinned (.plain (OpenSpec.ofChange keepTotalSpec)) keepTotalCard

/-- THE TIED CARD OF 'cordwoodlaw22.KeepAge'. -/
def keepAgeCard : Claim7 := { stood := { row := keepAgeRow, standIns := [], harness := (true, "bfbf51e73079d50ee2889920c97b428c265a04524dfc6bd01514a35f2ece3981"), looks := true }, kinds := [], alts := [], laidByText := true, laidKinds := [.sentinel, .sentinel], laidTests := true, laidLooks := .later }
def KeepAgeCardSaid : Prop := Claim7.holds Tryd.pinned (.plain (OpenSpec.ofChange keepAgeSpec)) keepAgeCard

/-- THE TIED CARD OF 'cordwoodlaw22.KeepBoth'. -/
def keepBothCard : Claim7 := { stood := { row := keepBothRow, standIns := [], harness := (true, "bfbf51e73079d50ee2889920c97b428c265a04524dfc6bd01514a35f2ece3981"), looks := true }, kinds := [], alts := [], laidByText := true, laidKinds := [.sentinel, .sentinel], laidTests := true, laidLooks := .later }
def KeepBothCardSaid : Prop := Claim7.holds Tryd.pinned (.plain (OpenSpec.ofChange keepBothSpec)) keepBothCard

/-- THE TIED CARD OF 'cordwoodlaw22.KeepLocal'. -/
def keepLocalCard : Claim7 := { stood := { row := keepLocalRow, standIns := [], harness := (true, "bfbf51e73079d50ee2889920c97b428c265a04524dfc6bd01514a35f2ece3981"), looks := true }, kinds := [], alts := [], laidByText := true, laidKinds := [.sentinel, .sentinel], laidTests := true, laidLooks := .later }
def KeepLocalCardSaid : Prop := Claim7.holds Tryd.pinned (.plain (OpenSpec.ofChange keepLocalSpec)) keepLocalCard

/-- THE TIED CARD OF 'cordwoodlaw22.KeepOpen'. -/
def keepOpenCard : Claim7 := { stood := { row := keepOpenRow, standIns := [], harness := (true, "bfbf51e73079d50ee2889920c97b428c265a04524dfc6bd01514a35f2ece3981"), looks := true }, kinds := [], alts := [], laidByText := true, laidKinds := [.sentinel, .sentinel, .sentinel, .sentinel, .sentinel, .sentinel, .sentinel, .sentinel, .sentinel, .sentinel, .sentinel, .sentinel, .sentinel, .sentinel, .sentinel, .sentinel, .sentinel, .sentinel, .sentinel], laidTests := true, laidLooks := .later }
def KeepOpenCardSaid : Prop := Claim7.holds Tryd.pinned (.plain (OpenSpec.ofChange keepOpenSpec)) keepOpenCard

/-- THE TIED CARD OF 'cordwoodlaw22.KeepMore'. -/
def keepMoreCard : Claim7 := { stood := { row := keepMoreRow, standIns := [], harness := (true, "bfbf51e73079d50ee2889920c97b428c265a04524dfc6bd01514a35f2ece3981"), looks := true }, kinds := [], alts := [], laidByText := true, laidKinds := [.sentinel, .sentinel], laidTests := true, laidLooks := .later }
def KeepMoreCardSaid : Prop := Claim7.holds Tryd.pinned (.plain (OpenSpec.ofChange keepMoreSpec)) keepMoreCard

/-- THE SECOND FORM's CARD OF 'cordwoodlaw22.KeepTotal'. -/
def keepTotalUptoCard : Claim7 := { stood := { row := keepTotalUptoRow, standIns := [], harness := (true, "bfbf51e73079d50ee2889920c97b428c265a04524dfc6bd01514a35f2ece3981"), looks := true }, kinds := [], alts := [], laidByText := true, laidKinds := [.sentinel, .sentinel], laidTests := true, laidLooks := .later }
def KeepTotalUptoCardSaid : Prop := Claim7.holds Tryd.pinned (.plain (OpenSpec.upto keepTotalSpec)) keepTotalUptoCard

/-- THE SECOND FORM's CARD OF 'cordwoodlaw22.KeepAge'. -/
def keepAgeUptoCard : Claim7 := { stood := { row := keepAgeUptoRow, standIns := [], harness := (true, "bfbf51e73079d50ee2889920c97b428c265a04524dfc6bd01514a35f2ece3981"), looks := true }, kinds := [], alts := [], laidByText := true, laidKinds := [.sentinel, .sentinel], laidTests := true, laidLooks := .later }
def KeepAgeUptoCardSaid : Prop := Claim7.holds Tryd.pinned (.plain (OpenSpec.upto keepAgeSpec)) keepAgeUptoCard

/-- THE SECOND FORM's CARD OF 'cordwoodlaw22.KeepBoth'. -/
def keepBothUptoCard : Claim7 := { stood := { row := keepBothUptoRow, standIns := [], harness := (true, "bfbf51e73079d50ee2889920c97b428c265a04524dfc6bd01514a35f2ece3981"), looks := true }, kinds := [], alts := [], laidByText := true, laidKinds := [.sentinel, .sentinel], laidTests := true, laidLooks := .later }
def KeepBothUptoCardSaid : Prop := Claim7.holds Tryd.pinned (.plain (OpenSpec.upto keepBothSpec)) keepBothUptoCard

/-- THE SECOND FORM's CARD OF 'cordwoodlaw22.KeepLocal'. -/
def keepLocalUptoCard : Claim7 := { stood := { row := keepLocalUptoRow, standIns := [], harness := (true, "bfbf51e73079d50ee2889920c97b428c265a04524dfc6bd01514a35f2ece3981"), looks := true }, kinds := [], alts := [], laidByText := true, laidKinds := [.sentinel, .sentinel], laidTests := true, laidLooks := .later }
def KeepLocalUptoCardSaid : Prop := Claim7.holds Tryd.pinned (.plain (OpenSpec.upto keepLocalSpec)) keepLocalUptoCard

/-- THE SECOND FORM's CARD OF 'cordwoodlaw22.KeepOpen'. -/
def keepOpenUptoCard : Claim7 := { stood := { row := keepOpenUptoRow, standIns := [], harness := (true, "bfbf51e73079d50ee2889920c97b428c265a04524dfc6bd01514a35f2ece3981"), looks := true }, kinds := [], alts := [], laidByText := true, laidKinds := [.sentinel, .sentinel, .sentinel, .sentinel, .sentinel, .sentinel, .sentinel, .sentinel, .sentinel, .sentinel, .sentinel, .sentinel, .sentinel, .sentinel, .sentinel, .sentinel, .sentinel, .sentinel, .sentinel], laidTests := true, laidLooks := .later }
def KeepOpenUptoCardSaid : Prop := Claim7.holds Tryd.pinned (.plain (OpenSpec.upto keepOpenSpec)) keepOpenUptoCard

/-- THE SECOND FORM's CARD OF 'cordwoodlaw22.KeepMore'. -/
def keepMoreUptoCard : Claim7 := { stood := { row := keepMoreUptoRow, standIns := [], harness := (true, "bfbf51e73079d50ee2889920c97b428c265a04524dfc6bd01514a35f2ece3981"), looks := true }, kinds := [], alts := [], laidByText := true, laidKinds := [.sentinel, .sentinel], laidTests := true, laidLooks := .later }
def KeepMoreUptoCardSaid : Prop := Claim7.holds Tryd.pinned (.plain (OpenSpec.upto keepMoreSpec)) keepMoreUptoCard
end Rows
end Go.Proofs.YtnbggdpbgibpoaaDoor
