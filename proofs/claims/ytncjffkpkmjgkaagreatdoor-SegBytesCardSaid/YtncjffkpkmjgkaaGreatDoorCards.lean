/-
  DERIVED. GIVEN WITH THE SEED: THE CARDS: each row of YtncjffkpkmjgkaaGreatDoorRows.lean that lists a variable, with what it lists TIED to the program's text (the seventh form; the later family's looks); each row that meets fmt, with fmt's text TOLD by the authors' own Lean function (tested against real Go, not proved from fmt's source: count such statements apart). THE CARD IS WHAT COUNTS. Prove the row's statement (the work); the ties are given (YtncjffkpkmjgkaaGreatDoorTie.lean); close each card by the builder's one call (the guide's Derived/Test/ToyasCard.lean, 'card_holds'). Laid BY PROGRAM, IN A SANDBOX (cutbox-door.mjs). By AI agents, Wed Nov 11 2026. No macro, syntax, notation, axiom, sorry.
-/
import Derived.Test.YtncjffkpkmjgkaaGreatDoorRows
import GoSem.ClaimSeven
namespace Go.Proofs.YtncjffkpkmjgkaaGreatDoor
namespace Rows

/-- THE TIED CARD OF 'cordwoodlaw7.SegBytes'. -/
def segBytesCard : Claim7 := { stood := { row := segBytesRow, standIns := [], harness := (true, "c67526c1156f599bcfe26b4271ed6a7e329bada1326410c709a5591e84ddf8fe"), looks := true }, kinds := [], alts := [], laidByText := true, laidKinds := [.data, .data, .data, .sentinel, .sentinel, .sentinel, .sentinel, .sentinel, .sentinel, .sentinel, .sentinel, .sentinel, .sentinel, .sentinel], laidTests := true, laidLooks := .later }
def SegBytesCardSaid : Prop := Claim7.holds Tryz.pinned (.plain (OpenSpec.ofChange segBytesSpec)) segBytesCard

/-- THE TIED CARD OF 'cordwoodlaw10.HotDrops'. -/
def hotDropsCard : Claim7 := { stood := { row := hotDropsRow, standIns := [], harness := (true, "c67526c1156f599bcfe26b4271ed6a7e329bada1326410c709a5591e84ddf8fe"), looks := true }, kinds := [], alts := [], laidByText := true, laidKinds := [.data, .data, .data, .sentinel, .sentinel, .sentinel, .sentinel, .sentinel, .sentinel, .sentinel, .sentinel, .sentinel, .sentinel, .sentinel, .sentinel, .sentinel, .sentinel, .sentinel, .sentinel, .sentinel, .sentinel, .sentinel], laidTests := true, laidLooks := .later }
def HotDropsCardSaid : Prop := Claim7.holds Tryz.pinned (.plain (OpenSpec.ofChange hotDropsSpec)) hotDropsCard

/-- THE TIED CARD OF 'cordwoodlaw10.HotRecovers'. -/
def hotRecoversCard : Claim7 := { stood := { row := hotRecoversRow, standIns := [], harness := (true, "c67526c1156f599bcfe26b4271ed6a7e329bada1326410c709a5591e84ddf8fe"), looks := true }, kinds := [], alts := [], laidByText := true, laidKinds := [.data, .data, .data, .sentinel, .sentinel, .sentinel, .sentinel, .sentinel, .sentinel, .sentinel, .sentinel, .sentinel, .sentinel, .sentinel, .sentinel], laidTests := true, laidLooks := .later }
def HotRecoversCardSaid : Prop := Claim7.holds Tryz.pinned (.plain (OpenSpec.ofChange hotRecoversSpec)) hotRecoversCard

/-- THE TIED CARD OF 'cordwoodlaw10.HotCuts'. -/
def hotCutsCard : Claim7 := { stood := { row := hotCutsRow, standIns := [], harness := (true, "c67526c1156f599bcfe26b4271ed6a7e329bada1326410c709a5591e84ddf8fe"), looks := true }, kinds := [], alts := [], laidByText := true, laidKinds := [.data, .data, .data, .sentinel, .sentinel, .sentinel, .sentinel, .sentinel, .sentinel, .sentinel, .sentinel, .sentinel, .sentinel, .sentinel, .sentinel], laidTests := true, laidLooks := .later }
def HotCutsCardSaid : Prop := Claim7.holds Tryz.pinned (.plain (OpenSpec.ofChange hotCutsSpec)) hotCutsCard

/-- THE SECOND FORM's CARD OF 'cordwoodlaw7.SegBytes'. -/
def segBytesUptoCard : Claim7 := { stood := { row := segBytesUptoRow, standIns := [], harness := (true, "c67526c1156f599bcfe26b4271ed6a7e329bada1326410c709a5591e84ddf8fe"), looks := true }, kinds := [], alts := [], laidByText := true, laidKinds := [.data, .data, .data, .sentinel, .sentinel, .sentinel, .sentinel, .sentinel, .sentinel, .sentinel, .sentinel, .sentinel, .sentinel, .sentinel], laidTests := true, laidLooks := .later }
def SegBytesUptoCardSaid : Prop := Claim7.holds Tryz.pinned (.plain (OpenSpec.upto segBytesSpec)) segBytesUptoCard

/-- THE SECOND FORM's CARD OF 'cordwoodlaw10.HotDrops'. -/
def hotDropsUptoCard : Claim7 := { stood := { row := hotDropsUptoRow, standIns := [], harness := (true, "c67526c1156f599bcfe26b4271ed6a7e329bada1326410c709a5591e84ddf8fe"), looks := true }, kinds := [], alts := [], laidByText := true, laidKinds := [.data, .data, .data, .sentinel, .sentinel, .sentinel, .sentinel, .sentinel, .sentinel, .sentinel, .sentinel, .sentinel, .sentinel, .sentinel, .sentinel, .sentinel, .sentinel, .sentinel, .sentinel, .sentinel, .sentinel, .sentinel], laidTests := true, laidLooks := .later }
def HotDropsUptoCardSaid : Prop := Claim7.holds Tryz.pinned (.plain (OpenSpec.upto hotDropsSpec)) hotDropsUptoCard

/-- THE SECOND FORM's CARD OF 'cordwoodlaw10.HotRecovers'. -/
def hotRecoversUptoCard : Claim7 := { stood := { row := hotRecoversUptoRow, standIns := [], harness := (true, "c67526c1156f599bcfe26b4271ed6a7e329bada1326410c709a5591e84ddf8fe"), looks := true }, kinds := [], alts := [], laidByText := true, laidKinds := [.data, .data, .data, .sentinel, .sentinel, .sentinel, .sentinel, .sentinel, .sentinel, .sentinel, .sentinel, .sentinel, .sentinel, .sentinel, .sentinel], laidTests := true, laidLooks := .later }
def HotRecoversUptoCardSaid : Prop := Claim7.holds Tryz.pinned (.plain (OpenSpec.upto hotRecoversSpec)) hotRecoversUptoCard

/-- THE SECOND FORM's CARD OF 'cordwoodlaw10.HotCuts'. -/
def hotCutsUptoCard : Claim7 := { stood := { row := hotCutsUptoRow, standIns := [], harness := (true, "c67526c1156f599bcfe26b4271ed6a7e329bada1326410c709a5591e84ddf8fe"), looks := true }, kinds := [], alts := [], laidByText := true, laidKinds := [.data, .data, .data, .sentinel, .sentinel, .sentinel, .sentinel, .sentinel, .sentinel, .sentinel, .sentinel, .sentinel, .sentinel, .sentinel, .sentinel], laidTests := true, laidLooks := .later }
def HotCutsUptoCardSaid : Prop := Claim7.holds Tryz.pinned (.plain (OpenSpec.upto hotCutsSpec)) hotCutsUptoCard
end Rows
end Go.Proofs.YtncjffkpkmjgkaaGreatDoor
