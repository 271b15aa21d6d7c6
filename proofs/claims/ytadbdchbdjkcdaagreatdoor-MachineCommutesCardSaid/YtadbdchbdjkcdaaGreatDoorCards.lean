/-
  DERIVED. GIVEN WITH THE SEED: THE CARDS: each row of YtadbdchbdjkcdaaGreatDoorRows.lean that lists a variable, with what it lists TIED to the program's text (the seventh form; the later family's looks); each row that meets fmt, with fmt's text TOLD by the authors' own Lean function (tested against real Go, not proved from fmt's source: count such statements apart). THE CARD IS WHAT COUNTS. Prove the row's statement (the work); the ties are given (YtadbdchbdjkcdaaGreatDoorTie.lean); close each card by the builder's one call (the guide's Derived/Test/ToyasCard.lean, 'card_holds'). Laid BY PROGRAM, IN A SANDBOX (cutbox-door.mjs). By AI agents, Wed Nov 11 2026. No macro, syntax, notation, axiom, sorry.
-/
import Derived.Test.YtadbdchbdjkcdaaGreatDoorRows
import GoSem.ClaimSeven
namespace Go.Proofs.YtadbdchbdjkcdaaGreatDoor
namespace Rows

/-- THE TIED CARD OF 'colloquylaw18.MachineRuns'. -/
def machineRunsCard : Claim7 := { stood := { row := machineRunsRow, standIns := [], harness := (true, "c6d1d0d01337629f0e4ef3913206fbefc8a1b2abe9e6a5d30e8a2ffa8aab4003"), looks := false }, kinds := [], alts := [], laidByText := true, laidKinds := [.data, .pinned], laidTests := true, laidLooks := .later }
def MachineRunsCardSaid : Prop := Claim7.holds Tryz.pinned (.plain (OpenSpec.ofChange machineRunsSpec)) machineRunsCard

/-- THE TIED CARD OF 'colloquylaw18.MachineApplies'. -/
def machineAppliesCard : Claim7 := { stood := { row := machineAppliesRow, standIns := [], harness := (true, "c6d1d0d01337629f0e4ef3913206fbefc8a1b2abe9e6a5d30e8a2ffa8aab4003"), looks := false }, kinds := [], alts := [], laidByText := true, laidKinds := [.data, .pinned], laidTests := true, laidLooks := .later }
def MachineAppliesCardSaid : Prop := Claim7.holds Tryz.pinned (.plain (OpenSpec.ofChange machineAppliesSpec)) machineAppliesCard

/-- THE TIED CARD OF 'colloquylaw18.MachineOnce'. -/
def machineOnceCard : Claim7 := { stood := { row := machineOnceRow, standIns := [], harness := (true, "c6d1d0d01337629f0e4ef3913206fbefc8a1b2abe9e6a5d30e8a2ffa8aab4003"), looks := false }, kinds := [], alts := [], laidByText := true, laidKinds := [.data, .pinned], laidTests := true, laidLooks := .later }
def MachineOnceCardSaid : Prop := Claim7.holds Tryz.pinned (.plain (OpenSpec.ofChange machineOnceSpec)) machineOnceCard

/-- THE TIED CARD OF 'colloquylaw18.MachineParts'. -/
def machinePartsCard : Claim7 := { stood := { row := machinePartsRow, standIns := [], harness := (true, "c6d1d0d01337629f0e4ef3913206fbefc8a1b2abe9e6a5d30e8a2ffa8aab4003"), looks := false }, kinds := [], alts := [], laidByText := true, laidKinds := [.data, .pinned], laidTests := true, laidLooks := .later }
def MachinePartsCardSaid : Prop := Claim7.holds Tryz.pinned (.plain (OpenSpec.ofChange machinePartsSpec)) machinePartsCard

/-- THE TIED CARD OF 'colloquylaw18.MachineReads'. -/
def machineReadsCard : Claim7 := { stood := { row := machineReadsRow, standIns := [], harness := (true, "c6d1d0d01337629f0e4ef3913206fbefc8a1b2abe9e6a5d30e8a2ffa8aab4003"), looks := false }, kinds := [], alts := [], laidByText := true, laidKinds := [.data, .pinned], laidTests := true, laidLooks := .later }
def MachineReadsCardSaid : Prop := Claim7.holds Tryz.pinned (.plain (OpenSpec.ofChange machineReadsSpec)) machineReadsCard

/-- THE TIED CARD OF 'colloquylaw18.MachineOutside'. -/
def machineOutsideCard : Claim7 := { stood := { row := machineOutsideRow, standIns := [], harness := (true, "c6d1d0d01337629f0e4ef3913206fbefc8a1b2abe9e6a5d30e8a2ffa8aab4003"), looks := false }, kinds := [], alts := [], laidByText := true, laidKinds := [.data, .pinned], laidTests := true, laidLooks := .later }
def MachineOutsideCardSaid : Prop := Claim7.holds Tryz.pinned (.plain (OpenSpec.ofChange machineOutsideSpec)) machineOutsideCard

/-- THE TIED CARD OF 'colloquylaw18.MachineCommutes'. -/
def machineCommutesCard : Claim7 := { stood := { row := machineCommutesRow, standIns := [], harness := (true, "c6d1d0d01337629f0e4ef3913206fbefc8a1b2abe9e6a5d30e8a2ffa8aab4003"), looks := false }, kinds := [], alts := [], laidByText := true, laidKinds := [.data, .pinned], laidTests := true, laidLooks := .later }
def MachineCommutesCardSaid : Prop := Claim7.holds Tryz.pinned (.plain (OpenSpec.ofChange machineCommutesSpec)) machineCommutesCard

/-- THE SECOND FORM's CARD OF 'colloquylaw18.MachineRuns'. -/
def machineRunsUptoCard : Claim7 := { stood := { row := machineRunsUptoRow, standIns := [], harness := (true, "c6d1d0d01337629f0e4ef3913206fbefc8a1b2abe9e6a5d30e8a2ffa8aab4003"), looks := false }, kinds := [], alts := [], laidByText := true, laidKinds := [.data, .pinned], laidTests := true, laidLooks := .later }
def MachineRunsUptoCardSaid : Prop := Claim7.holds Tryz.pinned (.plain (OpenSpec.upto machineRunsSpec)) machineRunsUptoCard

/-- THE SECOND FORM's CARD OF 'colloquylaw18.MachineApplies'. -/
def machineAppliesUptoCard : Claim7 := { stood := { row := machineAppliesUptoRow, standIns := [], harness := (true, "c6d1d0d01337629f0e4ef3913206fbefc8a1b2abe9e6a5d30e8a2ffa8aab4003"), looks := false }, kinds := [], alts := [], laidByText := true, laidKinds := [.data, .pinned], laidTests := true, laidLooks := .later }
def MachineAppliesUptoCardSaid : Prop := Claim7.holds Tryz.pinned (.plain (OpenSpec.upto machineAppliesSpec)) machineAppliesUptoCard

/-- THE SECOND FORM's CARD OF 'colloquylaw18.MachineOnce'. -/
def machineOnceUptoCard : Claim7 := { stood := { row := machineOnceUptoRow, standIns := [], harness := (true, "c6d1d0d01337629f0e4ef3913206fbefc8a1b2abe9e6a5d30e8a2ffa8aab4003"), looks := false }, kinds := [], alts := [], laidByText := true, laidKinds := [.data, .pinned], laidTests := true, laidLooks := .later }
def MachineOnceUptoCardSaid : Prop := Claim7.holds Tryz.pinned (.plain (OpenSpec.upto machineOnceSpec)) machineOnceUptoCard

/-- THE SECOND FORM's CARD OF 'colloquylaw18.MachineParts'. -/
def machinePartsUptoCard : Claim7 := { stood := { row := machinePartsUptoRow, standIns := [], harness := (true, "c6d1d0d01337629f0e4ef3913206fbefc8a1b2abe9e6a5d30e8a2ffa8aab4003"), looks := false }, kinds := [], alts := [], laidByText := true, laidKinds := [.data, .pinned], laidTests := true, laidLooks := .later }
def MachinePartsUptoCardSaid : Prop := Claim7.holds Tryz.pinned (.plain (OpenSpec.upto machinePartsSpec)) machinePartsUptoCard

/-- THE SECOND FORM's CARD OF 'colloquylaw18.MachineReads'. -/
def machineReadsUptoCard : Claim7 := { stood := { row := machineReadsUptoRow, standIns := [], harness := (true, "c6d1d0d01337629f0e4ef3913206fbefc8a1b2abe9e6a5d30e8a2ffa8aab4003"), looks := false }, kinds := [], alts := [], laidByText := true, laidKinds := [.data, .pinned], laidTests := true, laidLooks := .later }
def MachineReadsUptoCardSaid : Prop := Claim7.holds Tryz.pinned (.plain (OpenSpec.upto machineReadsSpec)) machineReadsUptoCard

/-- THE SECOND FORM's CARD OF 'colloquylaw18.MachineOutside'. -/
def machineOutsideUptoCard : Claim7 := { stood := { row := machineOutsideUptoRow, standIns := [], harness := (true, "c6d1d0d01337629f0e4ef3913206fbefc8a1b2abe9e6a5d30e8a2ffa8aab4003"), looks := false }, kinds := [], alts := [], laidByText := true, laidKinds := [.data, .pinned], laidTests := true, laidLooks := .later }
def MachineOutsideUptoCardSaid : Prop := Claim7.holds Tryz.pinned (.plain (OpenSpec.upto machineOutsideSpec)) machineOutsideUptoCard

/-- THE SECOND FORM's CARD OF 'colloquylaw18.MachineCommutes'. -/
def machineCommutesUptoCard : Claim7 := { stood := { row := machineCommutesUptoRow, standIns := [], harness := (true, "c6d1d0d01337629f0e4ef3913206fbefc8a1b2abe9e6a5d30e8a2ffa8aab4003"), looks := false }, kinds := [], alts := [], laidByText := true, laidKinds := [.data, .pinned], laidTests := true, laidLooks := .later }
def MachineCommutesUptoCardSaid : Prop := Claim7.holds Tryz.pinned (.plain (OpenSpec.upto machineCommutesSpec)) machineCommutesUptoCard
end Rows
end Go.Proofs.YtadbdchbdjkcdaaGreatDoor
