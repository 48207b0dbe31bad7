/-
  DERIVED. GIVEN WITH THE SEED: THE CARDS: each row of YtepmblomgmghcaaGreatDoorRows.lean that lists a variable, with what it lists TIED to the program's text (the seventh form; the later family's looks); each row that meets fmt, with fmt's text TOLD by the authors' own Lean function (tested against real Go, not proved from fmt's source: count such statements apart). THE CARD IS WHAT COUNTS. Prove the row's statement (the work); the ties are given (YtepmblomgmghcaaGreatDoorTie.lean); close each card by the builder's one call (the guide's Derived/Test/ToyasCard.lean, 'card_holds'). Laid BY PROGRAM, IN A SANDBOX (cutbox-door.mjs). By AI agents, Wed Nov 11 2026. No macro, syntax, notation, axiom, sorry.
-/
import Derived.Test.YtepmblomgmghcaaGreatDoorRows
import GoSem.ClaimSeven
namespace Go.Proofs.YtepmblomgmghcaaGreatDoor
namespace Rows

/-- THE TIED CARD OF 'cordwoodlaw7.SegBytes'. -/
def segBytesCard : Claim7 := { stood := { row := segBytesRow, standIns := [], harness := (true, "23645d7bfcd0a1822d6bc0e66384f3d6bcf1fb93af7a48be2ac3017049f47435"), looks := true }, kinds := [], alts := [], laidByText := true, laidKinds := [.data, .data, .data, .sentinel, .sentinel, .sentinel, .sentinel, .sentinel, .sentinel, .sentinel, .sentinel, .sentinel, .sentinel, .sentinel], laidTests := true, laidLooks := .later }
def SegBytesCardSaid : Prop := Claim7.holds Tryz.pinned (.plain (OpenSpec.ofChange segBytesSpec)) segBytesCard

/-- THE TIED CARD OF 'cordwoodlaw10.HotReads'. -/
def hotReadsCard : Claim7 := { stood := { row := hotReadsRow, standIns := [], harness := (true, "23645d7bfcd0a1822d6bc0e66384f3d6bcf1fb93af7a48be2ac3017049f47435"), looks := true }, kinds := [], alts := [], laidByText := true, laidKinds := [.data, .data, .data, .sentinel, .sentinel, .sentinel, .sentinel, .sentinel, .sentinel, .sentinel, .sentinel, .sentinel, .sentinel, .sentinel, .sentinel, .sentinel, .sentinel, .sentinel, .sentinel, .sentinel, .sentinel, .sentinel], laidTests := true, laidLooks := .later }
def HotReadsCardSaid : Prop := Claim7.holds Tryz.pinned (.plain (OpenSpec.ofChange hotReadsSpec)) hotReadsCard

/-- THE TIED CARD OF 'cordwoodlaw10.HotSizes'. -/
def hotSizesCard : Claim7 := { stood := { row := hotSizesRow, standIns := [], harness := (true, "23645d7bfcd0a1822d6bc0e66384f3d6bcf1fb93af7a48be2ac3017049f47435"), looks := true }, kinds := [], alts := [], laidByText := true, laidKinds := [.data, .data, .data, .sentinel, .sentinel, .sentinel, .sentinel, .sentinel, .sentinel, .sentinel, .sentinel, .sentinel, .sentinel, .sentinel, .sentinel], laidTests := true, laidLooks := .later }
def HotSizesCardSaid : Prop := Claim7.holds Tryz.pinned (.plain (OpenSpec.ofChange hotSizesSpec)) hotSizesCard

/-- THE TIED CARD OF 'cordwoodlaw10.HotRefuses'. -/
def hotRefusesCard : Claim7 := { stood := { row := hotRefusesRow, standIns := [], harness := (true, "23645d7bfcd0a1822d6bc0e66384f3d6bcf1fb93af7a48be2ac3017049f47435"), looks := true }, kinds := [], alts := [], laidByText := true, laidKinds := [.data, .data, .data, .sentinel, .sentinel, .sentinel, .sentinel, .sentinel, .sentinel, .sentinel, .sentinel, .sentinel, .sentinel, .sentinel, .sentinel, .sentinel, .sentinel, .sentinel, .sentinel, .sentinel, .sentinel, .sentinel], laidTests := true, laidLooks := .later }
def HotRefusesCardSaid : Prop := Claim7.holds Tryz.pinned (.plain (OpenSpec.ofChange hotRefusesSpec)) hotRefusesCard

/-- THE TIED CARD OF 'cordwoodlaw10.HotRolls'. -/
def hotRollsCard : Claim7 := { stood := { row := hotRollsRow, standIns := [], harness := (true, "23645d7bfcd0a1822d6bc0e66384f3d6bcf1fb93af7a48be2ac3017049f47435"), looks := true }, kinds := [], alts := [], laidByText := true, laidKinds := [.data, .data, .data, .sentinel, .sentinel, .sentinel, .sentinel, .sentinel, .sentinel, .sentinel, .sentinel, .sentinel, .sentinel, .sentinel, .sentinel], laidTests := true, laidLooks := .later }
def HotRollsCardSaid : Prop := Claim7.holds Tryz.pinned (.plain (OpenSpec.ofChange hotRollsSpec)) hotRollsCard

/-- THE TIED CARD OF 'cordwoodlaw10.HotBegins'. -/
def hotBeginsCard : Claim7 := { stood := { row := hotBeginsRow, standIns := [], harness := (true, "23645d7bfcd0a1822d6bc0e66384f3d6bcf1fb93af7a48be2ac3017049f47435"), looks := true }, kinds := [], alts := [], laidByText := true, laidKinds := [.data, .data, .data, .sentinel, .sentinel, .sentinel, .sentinel, .sentinel, .sentinel, .sentinel, .sentinel, .sentinel, .sentinel, .sentinel, .sentinel, .sentinel, .sentinel, .sentinel, .sentinel, .sentinel, .sentinel, .sentinel], laidTests := true, laidLooks := .later }
def HotBeginsCardSaid : Prop := Claim7.holds Tryz.pinned (.plain (OpenSpec.ofChange hotBeginsSpec)) hotBeginsCard

/-- THE TIED CARD OF 'cordwoodlaw10.HotMarks'. -/
def hotMarksCard : Claim7 := { stood := { row := hotMarksRow, standIns := [], harness := (true, "23645d7bfcd0a1822d6bc0e66384f3d6bcf1fb93af7a48be2ac3017049f47435"), looks := true }, kinds := [], alts := [], laidByText := true, laidKinds := [.data, .data, .data, .sentinel, .sentinel, .sentinel, .sentinel, .sentinel, .sentinel, .sentinel, .sentinel, .sentinel, .sentinel, .sentinel, .sentinel, .sentinel, .sentinel, .sentinel, .sentinel, .sentinel, .sentinel, .sentinel], laidTests := true, laidLooks := .later }
def HotMarksCardSaid : Prop := Claim7.holds Tryz.pinned (.plain (OpenSpec.ofChange hotMarksSpec)) hotMarksCard

/-- THE TIED CARD OF 'cordwoodlaw10.HotDrops'. -/
def hotDropsCard : Claim7 := { stood := { row := hotDropsRow, standIns := [], harness := (true, "23645d7bfcd0a1822d6bc0e66384f3d6bcf1fb93af7a48be2ac3017049f47435"), looks := true }, kinds := [], alts := [], laidByText := true, laidKinds := [.data, .data, .data, .sentinel, .sentinel, .sentinel, .sentinel, .sentinel, .sentinel, .sentinel, .sentinel, .sentinel, .sentinel, .sentinel, .sentinel, .sentinel, .sentinel, .sentinel, .sentinel, .sentinel, .sentinel, .sentinel], laidTests := true, laidLooks := .later }
def HotDropsCardSaid : Prop := Claim7.holds Tryz.pinned (.plain (OpenSpec.ofChange hotDropsSpec)) hotDropsCard

/-- THE TIED CARD OF 'cordwoodlaw10.HotRecovers'. -/
def hotRecoversCard : Claim7 := { stood := { row := hotRecoversRow, standIns := [], harness := (true, "23645d7bfcd0a1822d6bc0e66384f3d6bcf1fb93af7a48be2ac3017049f47435"), looks := true }, kinds := [], alts := [], laidByText := true, laidKinds := [.data, .data, .data, .sentinel, .sentinel, .sentinel, .sentinel, .sentinel, .sentinel, .sentinel, .sentinel, .sentinel, .sentinel, .sentinel, .sentinel], laidTests := true, laidLooks := .later }
def HotRecoversCardSaid : Prop := Claim7.holds Tryz.pinned (.plain (OpenSpec.ofChange hotRecoversSpec)) hotRecoversCard

/-- THE TIED CARD OF 'cordwoodlaw10.HotCuts'. -/
def hotCutsCard : Claim7 := { stood := { row := hotCutsRow, standIns := [], harness := (true, "23645d7bfcd0a1822d6bc0e66384f3d6bcf1fb93af7a48be2ac3017049f47435"), looks := true }, kinds := [], alts := [], laidByText := true, laidKinds := [.data, .data, .data, .sentinel, .sentinel, .sentinel, .sentinel, .sentinel, .sentinel, .sentinel, .sentinel, .sentinel, .sentinel, .sentinel, .sentinel], laidTests := true, laidLooks := .later }
def HotCutsCardSaid : Prop := Claim7.holds Tryz.pinned (.plain (OpenSpec.ofChange hotCutsSpec)) hotCutsCard

/-- THE SECOND FORM's CARD OF 'cordwoodlaw7.SegBytes'. -/
def segBytesUptoCard : Claim7 := { stood := { row := segBytesUptoRow, standIns := [], harness := (true, "23645d7bfcd0a1822d6bc0e66384f3d6bcf1fb93af7a48be2ac3017049f47435"), looks := true }, kinds := [], alts := [], laidByText := true, laidKinds := [.data, .data, .data, .sentinel, .sentinel, .sentinel, .sentinel, .sentinel, .sentinel, .sentinel, .sentinel, .sentinel, .sentinel, .sentinel], laidTests := true, laidLooks := .later }
def SegBytesUptoCardSaid : Prop := Claim7.holds Tryz.pinned (.plain (OpenSpec.upto segBytesSpec)) segBytesUptoCard

/-- THE SECOND FORM's CARD OF 'cordwoodlaw10.HotReads'. -/
def hotReadsUptoCard : Claim7 := { stood := { row := hotReadsUptoRow, standIns := [], harness := (true, "23645d7bfcd0a1822d6bc0e66384f3d6bcf1fb93af7a48be2ac3017049f47435"), looks := true }, kinds := [], alts := [], laidByText := true, laidKinds := [.data, .data, .data, .sentinel, .sentinel, .sentinel, .sentinel, .sentinel, .sentinel, .sentinel, .sentinel, .sentinel, .sentinel, .sentinel, .sentinel, .sentinel, .sentinel, .sentinel, .sentinel, .sentinel, .sentinel, .sentinel], laidTests := true, laidLooks := .later }
def HotReadsUptoCardSaid : Prop := Claim7.holds Tryz.pinned (.plain (OpenSpec.upto hotReadsSpec)) hotReadsUptoCard

/-- THE SECOND FORM's CARD OF 'cordwoodlaw10.HotSizes'. -/
def hotSizesUptoCard : Claim7 := { stood := { row := hotSizesUptoRow, standIns := [], harness := (true, "23645d7bfcd0a1822d6bc0e66384f3d6bcf1fb93af7a48be2ac3017049f47435"), looks := true }, kinds := [], alts := [], laidByText := true, laidKinds := [.data, .data, .data, .sentinel, .sentinel, .sentinel, .sentinel, .sentinel, .sentinel, .sentinel, .sentinel, .sentinel, .sentinel, .sentinel, .sentinel], laidTests := true, laidLooks := .later }
def HotSizesUptoCardSaid : Prop := Claim7.holds Tryz.pinned (.plain (OpenSpec.upto hotSizesSpec)) hotSizesUptoCard

/-- THE SECOND FORM's CARD OF 'cordwoodlaw10.HotRefuses'. -/
def hotRefusesUptoCard : Claim7 := { stood := { row := hotRefusesUptoRow, standIns := [], harness := (true, "23645d7bfcd0a1822d6bc0e66384f3d6bcf1fb93af7a48be2ac3017049f47435"), looks := true }, kinds := [], alts := [], laidByText := true, laidKinds := [.data, .data, .data, .sentinel, .sentinel, .sentinel, .sentinel, .sentinel, .sentinel, .sentinel, .sentinel, .sentinel, .sentinel, .sentinel, .sentinel, .sentinel, .sentinel, .sentinel, .sentinel, .sentinel, .sentinel, .sentinel], laidTests := true, laidLooks := .later }
def HotRefusesUptoCardSaid : Prop := Claim7.holds Tryz.pinned (.plain (OpenSpec.upto hotRefusesSpec)) hotRefusesUptoCard

/-- THE SECOND FORM's CARD OF 'cordwoodlaw10.HotRolls'. -/
def hotRollsUptoCard : Claim7 := { stood := { row := hotRollsUptoRow, standIns := [], harness := (true, "23645d7bfcd0a1822d6bc0e66384f3d6bcf1fb93af7a48be2ac3017049f47435"), looks := true }, kinds := [], alts := [], laidByText := true, laidKinds := [.data, .data, .data, .sentinel, .sentinel, .sentinel, .sentinel, .sentinel, .sentinel, .sentinel, .sentinel, .sentinel, .sentinel, .sentinel, .sentinel], laidTests := true, laidLooks := .later }
def HotRollsUptoCardSaid : Prop := Claim7.holds Tryz.pinned (.plain (OpenSpec.upto hotRollsSpec)) hotRollsUptoCard

/-- THE SECOND FORM's CARD OF 'cordwoodlaw10.HotBegins'. -/
def hotBeginsUptoCard : Claim7 := { stood := { row := hotBeginsUptoRow, standIns := [], harness := (true, "23645d7bfcd0a1822d6bc0e66384f3d6bcf1fb93af7a48be2ac3017049f47435"), looks := true }, kinds := [], alts := [], laidByText := true, laidKinds := [.data, .data, .data, .sentinel, .sentinel, .sentinel, .sentinel, .sentinel, .sentinel, .sentinel, .sentinel, .sentinel, .sentinel, .sentinel, .sentinel, .sentinel, .sentinel, .sentinel, .sentinel, .sentinel, .sentinel, .sentinel], laidTests := true, laidLooks := .later }
def HotBeginsUptoCardSaid : Prop := Claim7.holds Tryz.pinned (.plain (OpenSpec.upto hotBeginsSpec)) hotBeginsUptoCard

/-- THE SECOND FORM's CARD OF 'cordwoodlaw10.HotMarks'. -/
def hotMarksUptoCard : Claim7 := { stood := { row := hotMarksUptoRow, standIns := [], harness := (true, "23645d7bfcd0a1822d6bc0e66384f3d6bcf1fb93af7a48be2ac3017049f47435"), looks := true }, kinds := [], alts := [], laidByText := true, laidKinds := [.data, .data, .data, .sentinel, .sentinel, .sentinel, .sentinel, .sentinel, .sentinel, .sentinel, .sentinel, .sentinel, .sentinel, .sentinel, .sentinel, .sentinel, .sentinel, .sentinel, .sentinel, .sentinel, .sentinel, .sentinel], laidTests := true, laidLooks := .later }
def HotMarksUptoCardSaid : Prop := Claim7.holds Tryz.pinned (.plain (OpenSpec.upto hotMarksSpec)) hotMarksUptoCard

/-- THE SECOND FORM's CARD OF 'cordwoodlaw10.HotDrops'. -/
def hotDropsUptoCard : Claim7 := { stood := { row := hotDropsUptoRow, standIns := [], harness := (true, "23645d7bfcd0a1822d6bc0e66384f3d6bcf1fb93af7a48be2ac3017049f47435"), looks := true }, kinds := [], alts := [], laidByText := true, laidKinds := [.data, .data, .data, .sentinel, .sentinel, .sentinel, .sentinel, .sentinel, .sentinel, .sentinel, .sentinel, .sentinel, .sentinel, .sentinel, .sentinel, .sentinel, .sentinel, .sentinel, .sentinel, .sentinel, .sentinel, .sentinel], laidTests := true, laidLooks := .later }
def HotDropsUptoCardSaid : Prop := Claim7.holds Tryz.pinned (.plain (OpenSpec.upto hotDropsSpec)) hotDropsUptoCard

/-- THE SECOND FORM's CARD OF 'cordwoodlaw10.HotRecovers'. -/
def hotRecoversUptoCard : Claim7 := { stood := { row := hotRecoversUptoRow, standIns := [], harness := (true, "23645d7bfcd0a1822d6bc0e66384f3d6bcf1fb93af7a48be2ac3017049f47435"), looks := true }, kinds := [], alts := [], laidByText := true, laidKinds := [.data, .data, .data, .sentinel, .sentinel, .sentinel, .sentinel, .sentinel, .sentinel, .sentinel, .sentinel, .sentinel, .sentinel, .sentinel, .sentinel], laidTests := true, laidLooks := .later }
def HotRecoversUptoCardSaid : Prop := Claim7.holds Tryz.pinned (.plain (OpenSpec.upto hotRecoversSpec)) hotRecoversUptoCard

/-- THE SECOND FORM's CARD OF 'cordwoodlaw10.HotCuts'. -/
def hotCutsUptoCard : Claim7 := { stood := { row := hotCutsUptoRow, standIns := [], harness := (true, "23645d7bfcd0a1822d6bc0e66384f3d6bcf1fb93af7a48be2ac3017049f47435"), looks := true }, kinds := [], alts := [], laidByText := true, laidKinds := [.data, .data, .data, .sentinel, .sentinel, .sentinel, .sentinel, .sentinel, .sentinel, .sentinel, .sentinel, .sentinel, .sentinel, .sentinel, .sentinel], laidTests := true, laidLooks := .later }
def HotCutsUptoCardSaid : Prop := Claim7.holds Tryz.pinned (.plain (OpenSpec.upto hotCutsSpec)) hotCutsUptoCard
end Rows
end Go.Proofs.YtepmblomgmghcaaGreatDoor
