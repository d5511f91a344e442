/-
  DERIVED. GIVEN WITH THE SEED: THE CARDS: each row of YtageoaecepnfnaaGreatDoorRows.lean that lists a variable, with what it lists TIED to the program's text (the seventh form; the later family's looks); each row that meets fmt, with fmt's text TOLD by the authors' own Lean function (tested against real Go, not proved from fmt's source: count such statements apart). THE CARD IS WHAT COUNTS. Prove the row's statement (the work); the ties are given (YtageoaecepnfnaaGreatDoorTie.lean); close each card by the builder's one call (the guide's Derived/Test/ToyasCard.lean, 'card_holds'). Laid BY PROGRAM, IN A SANDBOX (cutbox-door.mjs). By AI agents, Wed Nov 11 2026. No macro, syntax, notation, axiom, sorry.
-/
import Derived.Test.YtageoaecepnfnaaGreatDoorRows
import GoSem.ClaimSeven
namespace Go.Proofs.YtageoaecepnfnaaGreatDoor
namespace Rows

/-- THE TIED CARD OF 'vmfleetlaw12.MachineNews'. -/
def machineNewsCard : Claim7 := { stood := { row := machineNewsRow, standIns := [], harness := (true, "543d6ebaafd17010143fc4001f22278ad20557d1351d4db6b26320f932ce18ad"), looks := false }, kinds := [], alts := [], laidByText := true, laidKinds := [.data, .data], laidTests := true, laidLooks := .later }
def MachineNewsCardSaid : Prop := Claim7.holds Tryz.pinned (.plain (OpenSpec.ofChange machineNewsSpec)) machineNewsCard

/-- THE TIED CARD OF 'vmfleetlaw12.MachineInterrupts'. -/
def machineInterruptsCard : Claim7 := { stood := { row := machineInterruptsRow, standIns := [], harness := (true, "543d6ebaafd17010143fc4001f22278ad20557d1351d4db6b26320f932ce18ad"), looks := false }, kinds := [], alts := [], laidByText := true, laidKinds := [.data, .data], laidTests := true, laidLooks := .later }
def MachineInterruptsCardSaid : Prop := Claim7.holds Tryz.pinned (.plain (OpenSpec.ofChange machineInterruptsSpec)) machineInterruptsCard

/-- THE TIED CARD OF 'vmfleetlaw12.MachineConfined'. -/
def machineConfinedCard : Claim7 := { stood := { row := machineConfinedRow, standIns := [], harness := (true, "543d6ebaafd17010143fc4001f22278ad20557d1351d4db6b26320f932ce18ad"), looks := false }, kinds := [], alts := [], laidByText := true, laidKinds := [.data, .data], laidTests := true, laidLooks := .later }
def MachineConfinedCardSaid : Prop := Claim7.holds Tryz.pinned (.plain (OpenSpec.ofChange machineConfinedSpec)) machineConfinedCard

/-- THE TIED CARD OF 'vmfleetlaw12.MachineEncodes'. -/
def machineEncodesCard : Claim7 := { stood := { row := machineEncodesRow, standIns := [], harness := (true, "543d6ebaafd17010143fc4001f22278ad20557d1351d4db6b26320f932ce18ad"), looks := false }, kinds := [], alts := [], laidByText := true, laidKinds := [.data, .data], laidTests := true, laidLooks := .later }
def MachineEncodesCardSaid : Prop := Claim7.holds Tryz.pinned (.plain (OpenSpec.ofChange machineEncodesSpec)) machineEncodesCard

/-- THE TIED CARD OF 'vmfleetlaw12.MachineTells'. -/
def machineTellsCard : Claim7 := { stood := { row := machineTellsRow, standIns := [], harness := (true, "543d6ebaafd17010143fc4001f22278ad20557d1351d4db6b26320f932ce18ad"), looks := false }, kinds := [], alts := [], laidByText := true, laidKinds := [.data, .data], laidTests := true, laidLooks := .later }
def MachineTellsCardSaid : Prop := Claim7.holds Tryz.pinned (.plain (OpenSpec.ofChange machineTellsSpec)) machineTellsCard

/-- THE TIED CARD OF 'vmfleetlaw12.MachineApplies'. -/
def machineAppliesCard : Claim7 := { stood := { row := machineAppliesRow, standIns := [], harness := (true, "543d6ebaafd17010143fc4001f22278ad20557d1351d4db6b26320f932ce18ad"), looks := false }, kinds := [], alts := [], laidByText := true, laidKinds := [.data, .data], laidTests := true, laidLooks := .later }
def MachineAppliesCardSaid : Prop := Claim7.holds Tryz.pinned (.plain (OpenSpec.ofChange machineAppliesSpec)) machineAppliesCard

/-- THE TIED CARD OF 'vmfleetlaw12.MachineHalted'. -/
def machineHaltedCard : Claim7 := { stood := { row := machineHaltedRow, standIns := [], harness := (true, "543d6ebaafd17010143fc4001f22278ad20557d1351d4db6b26320f932ce18ad"), looks := false }, kinds := [], alts := [], laidByText := true, laidKinds := [.data, .data], laidTests := true, laidLooks := .later }
def MachineHaltedCardSaid : Prop := Claim7.holds Tryz.pinned (.plain (OpenSpec.ofChange machineHaltedSpec)) machineHaltedCard

/-- THE TIED CARD OF 'vmfleetlaw12.MachineCommutes'. -/
def machineCommutesCard : Claim7 := { stood := { row := machineCommutesRow, standIns := [], harness := (true, "543d6ebaafd17010143fc4001f22278ad20557d1351d4db6b26320f932ce18ad"), looks := false }, kinds := [], alts := [], laidByText := true, laidKinds := [.data, .data], laidTests := true, laidLooks := .later }
def MachineCommutesCardSaid : Prop := Claim7.holds Tryz.pinned (.plain (OpenSpec.ofChange machineCommutesSpec)) machineCommutesCard

/-- THE TIED CARD OF 'vmfleetlaw12.MachineDma'. -/
def machineDmaCard : Claim7 := { stood := { row := machineDmaRow, standIns := [], harness := (true, "543d6ebaafd17010143fc4001f22278ad20557d1351d4db6b26320f932ce18ad"), looks := false }, kinds := [], alts := [], laidByText := true, laidKinds := [.data, .data], laidTests := true, laidLooks := .later }
def MachineDmaCardSaid : Prop := Claim7.holds Tryz.pinned (.plain (OpenSpec.ofChange machineDmaSpec)) machineDmaCard

/-- THE TIED CARD OF 'vmfleetlaw12.MachinePorts'. -/
def machinePortsCard : Claim7 := { stood := { row := machinePortsRow, standIns := [], harness := (true, "543d6ebaafd17010143fc4001f22278ad20557d1351d4db6b26320f932ce18ad"), looks := false }, kinds := [], alts := [], laidByText := true, laidKinds := [.data, .data], laidTests := true, laidLooks := .later }
def MachinePortsCardSaid : Prop := Claim7.holds Tryz.pinned (.plain (OpenSpec.ofChange machinePortsSpec)) machinePortsCard

/-- THE TIED CARD OF 'vmfleetlaw30.PrecopyCopies'. -/
def precopyCopiesCard : Claim7 := { stood := { row := precopyCopiesRow, standIns := [], harness := (true, "543d6ebaafd17010143fc4001f22278ad20557d1351d4db6b26320f932ce18ad"), looks := false }, kinds := [], alts := [], laidByText := true, laidKinds := [.data, .data], laidTests := true, laidLooks := .later }
def PrecopyCopiesCardSaid : Prop := Claim7.holds Tryz.pinned (.plain (OpenSpec.ofChange precopyCopiesSpec)) precopyCopiesCard

/-- THE TIED CARD OF 'vmfleetlaw12.MachineKeeps'. -/
def machineKeepsCard : Claim7 := { stood := { row := machineKeepsRow, standIns := [], harness := (true, "543d6ebaafd17010143fc4001f22278ad20557d1351d4db6b26320f932ce18ad"), looks := false }, kinds := [], alts := [], laidByText := true, laidKinds := [.data, .data], laidTests := true, laidLooks := .later }
def MachineKeepsCardSaid : Prop := Claim7.holds Tryz.pinned (.plain (OpenSpec.ofChange machineKeepsSpec)) machineKeepsCard

/-- THE SECOND FORM's CARD OF 'vmfleetlaw12.MachineNews'. -/
def machineNewsUptoCard : Claim7 := { stood := { row := machineNewsUptoRow, standIns := [], harness := (true, "543d6ebaafd17010143fc4001f22278ad20557d1351d4db6b26320f932ce18ad"), looks := false }, kinds := [], alts := [], laidByText := true, laidKinds := [.data, .data], laidTests := true, laidLooks := .later }
def MachineNewsUptoCardSaid : Prop := Claim7.holds Tryz.pinned (.plain (OpenSpec.upto machineNewsSpec)) machineNewsUptoCard

/-- THE SECOND FORM's CARD OF 'vmfleetlaw12.MachineInterrupts'. -/
def machineInterruptsUptoCard : Claim7 := { stood := { row := machineInterruptsUptoRow, standIns := [], harness := (true, "543d6ebaafd17010143fc4001f22278ad20557d1351d4db6b26320f932ce18ad"), looks := false }, kinds := [], alts := [], laidByText := true, laidKinds := [.data, .data], laidTests := true, laidLooks := .later }
def MachineInterruptsUptoCardSaid : Prop := Claim7.holds Tryz.pinned (.plain (OpenSpec.upto machineInterruptsSpec)) machineInterruptsUptoCard

/-- THE SECOND FORM's CARD OF 'vmfleetlaw12.MachineConfined'. -/
def machineConfinedUptoCard : Claim7 := { stood := { row := machineConfinedUptoRow, standIns := [], harness := (true, "543d6ebaafd17010143fc4001f22278ad20557d1351d4db6b26320f932ce18ad"), looks := false }, kinds := [], alts := [], laidByText := true, laidKinds := [.data, .data], laidTests := true, laidLooks := .later }
def MachineConfinedUptoCardSaid : Prop := Claim7.holds Tryz.pinned (.plain (OpenSpec.upto machineConfinedSpec)) machineConfinedUptoCard

/-- THE SECOND FORM's CARD OF 'vmfleetlaw12.MachineEncodes'. -/
def machineEncodesUptoCard : Claim7 := { stood := { row := machineEncodesUptoRow, standIns := [], harness := (true, "543d6ebaafd17010143fc4001f22278ad20557d1351d4db6b26320f932ce18ad"), looks := false }, kinds := [], alts := [], laidByText := true, laidKinds := [.data, .data], laidTests := true, laidLooks := .later }
def MachineEncodesUptoCardSaid : Prop := Claim7.holds Tryz.pinned (.plain (OpenSpec.upto machineEncodesSpec)) machineEncodesUptoCard

/-- THE SECOND FORM's CARD OF 'vmfleetlaw12.MachineTells'. -/
def machineTellsUptoCard : Claim7 := { stood := { row := machineTellsUptoRow, standIns := [], harness := (true, "543d6ebaafd17010143fc4001f22278ad20557d1351d4db6b26320f932ce18ad"), looks := false }, kinds := [], alts := [], laidByText := true, laidKinds := [.data, .data], laidTests := true, laidLooks := .later }
def MachineTellsUptoCardSaid : Prop := Claim7.holds Tryz.pinned (.plain (OpenSpec.upto machineTellsSpec)) machineTellsUptoCard

/-- THE SECOND FORM's CARD OF 'vmfleetlaw12.MachineApplies'. -/
def machineAppliesUptoCard : Claim7 := { stood := { row := machineAppliesUptoRow, standIns := [], harness := (true, "543d6ebaafd17010143fc4001f22278ad20557d1351d4db6b26320f932ce18ad"), looks := false }, kinds := [], alts := [], laidByText := true, laidKinds := [.data, .data], laidTests := true, laidLooks := .later }
def MachineAppliesUptoCardSaid : Prop := Claim7.holds Tryz.pinned (.plain (OpenSpec.upto machineAppliesSpec)) machineAppliesUptoCard

/-- THE SECOND FORM's CARD OF 'vmfleetlaw12.MachineHalted'. -/
def machineHaltedUptoCard : Claim7 := { stood := { row := machineHaltedUptoRow, standIns := [], harness := (true, "543d6ebaafd17010143fc4001f22278ad20557d1351d4db6b26320f932ce18ad"), looks := false }, kinds := [], alts := [], laidByText := true, laidKinds := [.data, .data], laidTests := true, laidLooks := .later }
def MachineHaltedUptoCardSaid : Prop := Claim7.holds Tryz.pinned (.plain (OpenSpec.upto machineHaltedSpec)) machineHaltedUptoCard

/-- THE SECOND FORM's CARD OF 'vmfleetlaw12.MachineCommutes'. -/
def machineCommutesUptoCard : Claim7 := { stood := { row := machineCommutesUptoRow, standIns := [], harness := (true, "543d6ebaafd17010143fc4001f22278ad20557d1351d4db6b26320f932ce18ad"), looks := false }, kinds := [], alts := [], laidByText := true, laidKinds := [.data, .data], laidTests := true, laidLooks := .later }
def MachineCommutesUptoCardSaid : Prop := Claim7.holds Tryz.pinned (.plain (OpenSpec.upto machineCommutesSpec)) machineCommutesUptoCard

/-- THE SECOND FORM's CARD OF 'vmfleetlaw12.MachineDma'. -/
def machineDmaUptoCard : Claim7 := { stood := { row := machineDmaUptoRow, standIns := [], harness := (true, "543d6ebaafd17010143fc4001f22278ad20557d1351d4db6b26320f932ce18ad"), looks := false }, kinds := [], alts := [], laidByText := true, laidKinds := [.data, .data], laidTests := true, laidLooks := .later }
def MachineDmaUptoCardSaid : Prop := Claim7.holds Tryz.pinned (.plain (OpenSpec.upto machineDmaSpec)) machineDmaUptoCard

/-- THE SECOND FORM's CARD OF 'vmfleetlaw12.MachinePorts'. -/
def machinePortsUptoCard : Claim7 := { stood := { row := machinePortsUptoRow, standIns := [], harness := (true, "543d6ebaafd17010143fc4001f22278ad20557d1351d4db6b26320f932ce18ad"), looks := false }, kinds := [], alts := [], laidByText := true, laidKinds := [.data, .data], laidTests := true, laidLooks := .later }
def MachinePortsUptoCardSaid : Prop := Claim7.holds Tryz.pinned (.plain (OpenSpec.upto machinePortsSpec)) machinePortsUptoCard

/-- THE SECOND FORM's CARD OF 'vmfleetlaw30.PrecopyCopies'. -/
def precopyCopiesUptoCard : Claim7 := { stood := { row := precopyCopiesUptoRow, standIns := [], harness := (true, "543d6ebaafd17010143fc4001f22278ad20557d1351d4db6b26320f932ce18ad"), looks := false }, kinds := [], alts := [], laidByText := true, laidKinds := [.data, .data], laidTests := true, laidLooks := .later }
def PrecopyCopiesUptoCardSaid : Prop := Claim7.holds Tryz.pinned (.plain (OpenSpec.upto precopyCopiesSpec)) precopyCopiesUptoCard

/-- THE SECOND FORM's CARD OF 'vmfleetlaw12.MachineKeeps'. -/
def machineKeepsUptoCard : Claim7 := { stood := { row := machineKeepsUptoRow, standIns := [], harness := (true, "543d6ebaafd17010143fc4001f22278ad20557d1351d4db6b26320f932ce18ad"), looks := false }, kinds := [], alts := [], laidByText := true, laidKinds := [.data, .data], laidTests := true, laidLooks := .later }
def MachineKeepsUptoCardSaid : Prop := Claim7.holds Tryz.pinned (.plain (OpenSpec.upto machineKeepsSpec)) machineKeepsUptoCard
end Rows
end Go.Proofs.YtageoaecepnfnaaGreatDoor
