/-
  DERIVED. GIVEN WITH THE SEED: THE CARDS: each row of YtlkkagjpapjehaaGreatDoorRows.lean that lists a variable, with what it lists TIED to the program's text (the seventh form; the later family's looks); each row that meets fmt, with fmt's text TOLD by the authors' own Lean function (tested against real Go, not proved from fmt's source: count such statements apart). THE CARD IS WHAT COUNTS. Prove the row's statement (the work); the ties are given (YtlkkagjpapjehaaGreatDoorTie.lean); close each card by the builder's one call (the guide's Derived/Test/ToyasCard.lean, 'card_holds'). Laid BY PROGRAM, IN A SANDBOX (cutbox-door.mjs). By AI agents, Wed Nov 11 2026. No macro, syntax, notation, axiom, sorry.
-/
import Derived.Test.YtlkkagjpapjehaaGreatDoorRows
import GoSem.ClaimSeven
namespace Go.Proofs.YtlkkagjpapjehaaGreatDoor
namespace Rows

/-- THE TIED CARD OF 'cordwoodlaw7.SegLimits'. -/
def segLimitsCard : Claim7 := { stood := { row := segLimitsRow, standIns := [], harness := (true, "b18fa6822998d28cbfee8c8508fdad7df03ef78fdaa45b5f7363297042c1422f"), looks := true }, kinds := [], alts := [], laidByText := true, laidKinds := [.data, .data, .data, .sentinel, .sentinel, .sentinel, .sentinel, .sentinel, .sentinel, .sentinel, .sentinel, .sentinel, .sentinel, .sentinel], laidTests := true, laidLooks := .later }
def SegLimitsCardSaid : Prop := Claim7.holds Tryz.pinned (.plain (OpenSpec.ofChange segLimitsSpec)) segLimitsCard

/-- THE TIED CARD OF 'cordwoodlaw7.SegRefuses'. -/
def segRefusesCard : Claim7 := { stood := { row := segRefusesRow, standIns := [], harness := (true, "b18fa6822998d28cbfee8c8508fdad7df03ef78fdaa45b5f7363297042c1422f"), looks := true }, kinds := [], alts := [], laidByText := true, laidKinds := [.data, .data, .data, .sentinel, .sentinel, .sentinel, .sentinel, .sentinel, .sentinel, .sentinel, .sentinel, .sentinel, .sentinel, .sentinel, .sentinel, .sentinel, .sentinel, .sentinel, .sentinel, .sentinel, .sentinel, .sentinel], laidTests := true, laidLooks := .later }
def SegRefusesCardSaid : Prop := Claim7.holds Tryz.pinned (.plain (OpenSpec.ofChange segRefusesSpec)) segRefusesCard

/-- THE TIED CARD OF 'cordwoodlaw7.SegReads'. -/
def segReadsCard : Claim7 := { stood := { row := segReadsRow, standIns := [], harness := (true, "b18fa6822998d28cbfee8c8508fdad7df03ef78fdaa45b5f7363297042c1422f"), looks := true }, kinds := [], alts := [], laidByText := true, laidKinds := [.data, .data, .data, .sentinel, .sentinel, .sentinel, .sentinel, .sentinel, .sentinel, .sentinel, .sentinel, .sentinel, .sentinel, .sentinel, .sentinel, .sentinel, .sentinel, .sentinel, .sentinel, .sentinel, .sentinel, .sentinel], laidTests := true, laidLooks := .later }
def SegReadsCardSaid : Prop := Claim7.holds Tryz.pinned (.plain (OpenSpec.ofChange segReadsSpec)) segReadsCard

/-- THE TIED CARD OF 'cordwoodlaw7.SegGrows'. -/
def segGrowsCard : Claim7 := { stood := { row := segGrowsRow, standIns := [], harness := (true, "b18fa6822998d28cbfee8c8508fdad7df03ef78fdaa45b5f7363297042c1422f"), looks := true }, kinds := [], alts := [], laidByText := true, laidKinds := [.data, .data, .data, .sentinel, .sentinel, .sentinel, .sentinel, .sentinel, .sentinel, .sentinel, .sentinel, .sentinel, .sentinel, .sentinel], laidTests := true, laidLooks := .later }
def SegGrowsCardSaid : Prop := Claim7.holds Tryz.pinned (.plain (OpenSpec.ofChange segGrowsSpec)) segGrowsCard

/-- THE TIED CARD OF 'cordwoodlaw7.SegFull'. -/
def segFullCard : Claim7 := { stood := { row := segFullRow, standIns := [], harness := (true, "b18fa6822998d28cbfee8c8508fdad7df03ef78fdaa45b5f7363297042c1422f"), looks := true }, kinds := [], alts := [], laidByText := true, laidKinds := [.data, .data, .data, .sentinel, .sentinel, .sentinel, .sentinel, .sentinel, .sentinel, .sentinel, .sentinel, .sentinel, .sentinel, .sentinel], laidTests := true, laidLooks := .later }
def SegFullCardSaid : Prop := Claim7.holds Tryz.pinned (.plain (OpenSpec.ofChange segFullSpec)) segFullCard

/-- THE TIED CARD OF 'cordwoodlaw7.SegBytes'. -/
def segBytesCard : Claim7 := { stood := { row := segBytesRow, standIns := [], harness := (true, "b18fa6822998d28cbfee8c8508fdad7df03ef78fdaa45b5f7363297042c1422f"), looks := true }, kinds := [], alts := [], laidByText := true, laidKinds := [.data, .data, .data, .sentinel, .sentinel, .sentinel, .sentinel, .sentinel, .sentinel, .sentinel, .sentinel, .sentinel, .sentinel, .sentinel], laidTests := true, laidLooks := .later }
def SegBytesCardSaid : Prop := Claim7.holds Tryz.pinned (.plain (OpenSpec.ofChange segBytesSpec)) segBytesCard

/-- THE TIED CARD OF 'cordwoodlaw7.SegRecovers'. -/
def segRecoversCard : Claim7 := { stood := { row := segRecoversRow, standIns := [], harness := (true, "b18fa6822998d28cbfee8c8508fdad7df03ef78fdaa45b5f7363297042c1422f"), looks := true }, kinds := [], alts := [], laidByText := true, laidKinds := [.data, .data, .data, .sentinel, .sentinel, .sentinel, .sentinel, .sentinel, .sentinel, .sentinel, .sentinel, .sentinel, .sentinel, .sentinel], laidTests := true, laidLooks := .later }
def SegRecoversCardSaid : Prop := Claim7.holds Tryz.pinned (.plain (OpenSpec.ofChange segRecoversSpec)) segRecoversCard

/-- THE TIED CARD OF 'cordwoodlaw7.SegCuts'. -/
def segCutsCard : Claim7 := { stood := { row := segCutsRow, standIns := [], harness := (true, "b18fa6822998d28cbfee8c8508fdad7df03ef78fdaa45b5f7363297042c1422f"), looks := true }, kinds := [], alts := [], laidByText := true, laidKinds := [.data, .data, .data, .sentinel, .sentinel, .sentinel, .sentinel, .sentinel, .sentinel, .sentinel, .sentinel, .sentinel, .sentinel, .sentinel, .sentinel, .sentinel, .sentinel, .sentinel, .sentinel, .sentinel, .sentinel, .sentinel], laidTests := true, laidLooks := .later }
def SegCutsCardSaid : Prop := Claim7.holds Tryz.pinned (.plain (OpenSpec.ofChange segCutsSpec)) segCutsCard

/-- THE SECOND FORM's CARD OF 'cordwoodlaw7.SegLimits'. -/
def segLimitsUptoCard : Claim7 := { stood := { row := segLimitsUptoRow, standIns := [], harness := (true, "b18fa6822998d28cbfee8c8508fdad7df03ef78fdaa45b5f7363297042c1422f"), looks := true }, kinds := [], alts := [], laidByText := true, laidKinds := [.data, .data, .data, .sentinel, .sentinel, .sentinel, .sentinel, .sentinel, .sentinel, .sentinel, .sentinel, .sentinel, .sentinel, .sentinel], laidTests := true, laidLooks := .later }
def SegLimitsUptoCardSaid : Prop := Claim7.holds Tryz.pinned (.plain (OpenSpec.upto segLimitsSpec)) segLimitsUptoCard

/-- THE SECOND FORM's CARD OF 'cordwoodlaw7.SegRefuses'. -/
def segRefusesUptoCard : Claim7 := { stood := { row := segRefusesUptoRow, standIns := [], harness := (true, "b18fa6822998d28cbfee8c8508fdad7df03ef78fdaa45b5f7363297042c1422f"), looks := true }, kinds := [], alts := [], laidByText := true, laidKinds := [.data, .data, .data, .sentinel, .sentinel, .sentinel, .sentinel, .sentinel, .sentinel, .sentinel, .sentinel, .sentinel, .sentinel, .sentinel, .sentinel, .sentinel, .sentinel, .sentinel, .sentinel, .sentinel, .sentinel, .sentinel], laidTests := true, laidLooks := .later }
def SegRefusesUptoCardSaid : Prop := Claim7.holds Tryz.pinned (.plain (OpenSpec.upto segRefusesSpec)) segRefusesUptoCard

/-- THE SECOND FORM's CARD OF 'cordwoodlaw7.SegReads'. -/
def segReadsUptoCard : Claim7 := { stood := { row := segReadsUptoRow, standIns := [], harness := (true, "b18fa6822998d28cbfee8c8508fdad7df03ef78fdaa45b5f7363297042c1422f"), looks := true }, kinds := [], alts := [], laidByText := true, laidKinds := [.data, .data, .data, .sentinel, .sentinel, .sentinel, .sentinel, .sentinel, .sentinel, .sentinel, .sentinel, .sentinel, .sentinel, .sentinel, .sentinel, .sentinel, .sentinel, .sentinel, .sentinel, .sentinel, .sentinel, .sentinel], laidTests := true, laidLooks := .later }
def SegReadsUptoCardSaid : Prop := Claim7.holds Tryz.pinned (.plain (OpenSpec.upto segReadsSpec)) segReadsUptoCard

/-- THE SECOND FORM's CARD OF 'cordwoodlaw7.SegGrows'. -/
def segGrowsUptoCard : Claim7 := { stood := { row := segGrowsUptoRow, standIns := [], harness := (true, "b18fa6822998d28cbfee8c8508fdad7df03ef78fdaa45b5f7363297042c1422f"), looks := true }, kinds := [], alts := [], laidByText := true, laidKinds := [.data, .data, .data, .sentinel, .sentinel, .sentinel, .sentinel, .sentinel, .sentinel, .sentinel, .sentinel, .sentinel, .sentinel, .sentinel], laidTests := true, laidLooks := .later }
def SegGrowsUptoCardSaid : Prop := Claim7.holds Tryz.pinned (.plain (OpenSpec.upto segGrowsSpec)) segGrowsUptoCard

/-- THE SECOND FORM's CARD OF 'cordwoodlaw7.SegFull'. -/
def segFullUptoCard : Claim7 := { stood := { row := segFullUptoRow, standIns := [], harness := (true, "b18fa6822998d28cbfee8c8508fdad7df03ef78fdaa45b5f7363297042c1422f"), looks := true }, kinds := [], alts := [], laidByText := true, laidKinds := [.data, .data, .data, .sentinel, .sentinel, .sentinel, .sentinel, .sentinel, .sentinel, .sentinel, .sentinel, .sentinel, .sentinel, .sentinel], laidTests := true, laidLooks := .later }
def SegFullUptoCardSaid : Prop := Claim7.holds Tryz.pinned (.plain (OpenSpec.upto segFullSpec)) segFullUptoCard

/-- THE SECOND FORM's CARD OF 'cordwoodlaw7.SegBytes'. -/
def segBytesUptoCard : Claim7 := { stood := { row := segBytesUptoRow, standIns := [], harness := (true, "b18fa6822998d28cbfee8c8508fdad7df03ef78fdaa45b5f7363297042c1422f"), looks := true }, kinds := [], alts := [], laidByText := true, laidKinds := [.data, .data, .data, .sentinel, .sentinel, .sentinel, .sentinel, .sentinel, .sentinel, .sentinel, .sentinel, .sentinel, .sentinel, .sentinel], laidTests := true, laidLooks := .later }
def SegBytesUptoCardSaid : Prop := Claim7.holds Tryz.pinned (.plain (OpenSpec.upto segBytesSpec)) segBytesUptoCard

/-- THE SECOND FORM's CARD OF 'cordwoodlaw7.SegRecovers'. -/
def segRecoversUptoCard : Claim7 := { stood := { row := segRecoversUptoRow, standIns := [], harness := (true, "b18fa6822998d28cbfee8c8508fdad7df03ef78fdaa45b5f7363297042c1422f"), looks := true }, kinds := [], alts := [], laidByText := true, laidKinds := [.data, .data, .data, .sentinel, .sentinel, .sentinel, .sentinel, .sentinel, .sentinel, .sentinel, .sentinel, .sentinel, .sentinel, .sentinel], laidTests := true, laidLooks := .later }
def SegRecoversUptoCardSaid : Prop := Claim7.holds Tryz.pinned (.plain (OpenSpec.upto segRecoversSpec)) segRecoversUptoCard

/-- THE SECOND FORM's CARD OF 'cordwoodlaw7.SegCuts'. -/
def segCutsUptoCard : Claim7 := { stood := { row := segCutsUptoRow, standIns := [], harness := (true, "b18fa6822998d28cbfee8c8508fdad7df03ef78fdaa45b5f7363297042c1422f"), looks := true }, kinds := [], alts := [], laidByText := true, laidKinds := [.data, .data, .data, .sentinel, .sentinel, .sentinel, .sentinel, .sentinel, .sentinel, .sentinel, .sentinel, .sentinel, .sentinel, .sentinel, .sentinel, .sentinel, .sentinel, .sentinel, .sentinel, .sentinel, .sentinel, .sentinel], laidTests := true, laidLooks := .later }
def SegCutsUptoCardSaid : Prop := Claim7.holds Tryz.pinned (.plain (OpenSpec.upto segCutsSpec)) segCutsUptoCard
end Rows
end Go.Proofs.YtlkkagjpapjehaaGreatDoor
