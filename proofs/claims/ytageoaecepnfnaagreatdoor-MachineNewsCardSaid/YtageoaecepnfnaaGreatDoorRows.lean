/-
  NARROWER THAN 'FOR EVERY INPUT', by the rows' own cells (each row's printed sentence says how): MachineNews: laid · MachineInterrupts: laid · MachineConfined: laid · MachineEncodes: laid · MachineTells: laid · MachineApplies: laid · MachineHalted: laid · MachineCommutes: laid · MachineDma: laid · MachinePorts: laid · PrecopyCopies: laid · MachineKeeps: laid.
  DERIVED. THE GIVEN ROWS OF THIS SEAT. 12 by the template 'for every input the law returns true; each argument reads behind the call as it read before'; 0 by the template 'total and deterministic' (their statements: YtageoaecepnfnaaGreatDoorTotals.lean).
  GIVEN WITH THE SEED: the statements are not yours to turn. If you find one false, say at which input.
  Laid BY PROGRAM, IN A SANDBOX (cutbox-rows.mjs): the forced cells as the released guide's own fill.sh prints them over the translation 88228f28f48dea28… (all of the seat's roots in one cut). By AI agents, Wed Nov 11 2026. No macro, syntax, notation, axiom, sorry.
-/
import Derived.Test.YtageoaecepnfnaaGreatDoorChecked
import GoSem.Claim
import GoSem.ClaimJoined
import GoSem.ClaimMapViews
import Derived.JoinedTies
import Derived.KernelRfl
namespace Go.Proofs.YtageoaecepnfnaaGreatDoor
/- THE CELL 'sum', in the pinned program and in every row, IS THE sha256 OF THE DUMP (.gsa) THAT YtageoaecepnfnaaGreatDoorProg.lean LOADS. Nothing in Lean hashes anything: it is a label: what it is worth is what the hold of that sum in a sandbox is worth. -/
noncomputable def Tryz.pinned : Pinned := { name := "ytageoaecepnfnaagreatdoor", sum := "88228f28f48dea28476efc8effaa6fc8ec83bbed20f20ba997c017a1c37006fb", checked := Tryz.checked }
namespace Rows
def none {H : Type} : Left H := { results := [], args := [] }

/- WHAT THE LISTED PACKAGE-LEVEL VARIABLES READ AS WHEN THE CALL BEGINS. Each datum BY PROGRAM (the guide's laid-datum.mjs) off the statement by which the dump's own 'gosem.cut.vars' lays the variable. In a bare row this is a premise. The card (YtageoaecepnfnaaGreatDoorCards.lean) ties it to the program's text. -/
def laid_math_bits_deBruijn32tab {H : Type} : DataW H := .agg [.lit (.int .u8 0), .lit (.int .u8 1), .lit (.int .u8 28), .lit (.int .u8 2), .lit (.int .u8 29), .lit (.int .u8 14), .lit (.int .u8 24), .lit (.int .u8 3), .lit (.int .u8 30), .lit (.int .u8 22), .lit (.int .u8 20), .lit (.int .u8 15), .lit (.int .u8 25), .lit (.int .u8 17), .lit (.int .u8 4), .lit (.int .u8 8), .lit (.int .u8 31), .lit (.int .u8 27), .lit (.int .u8 13), .lit (.int .u8 23), .lit (.int .u8 21), .lit (.int .u8 19), .lit (.int .u8 16), .lit (.int .u8 7), .lit (.int .u8 26), .lit (.int .u8 12), .lit (.int .u8 18), .lit (.int .u8 6), .lit (.int .u8 11), .lit (.int .u8 5), .lit (.int .u8 10), .lit (.int .u8 9)]
def laid_vmfleet_isa_names {H : Type} : DataW H := .agg [.lit (.string []), .lit (.string [97, 100, 100]), .lit (.string [115, 117, 98]), .lit (.string [97, 110, 100]), .lit (.string [111, 114]), .lit (.string [120, 111, 114]), .lit (.string [115, 104, 108]), .lit (.string [115, 104, 114]), .lit (.string [115, 97, 114]), .lit (.string [109, 117, 108]), .lit (.string [100, 105, 118]), .lit (.string [114, 101, 109]), .lit (.string [115, 108, 116]), .lit (.string [115, 108, 116, 117]), .lit (.string []), .lit (.string []), .lit (.string [97, 100, 100, 105]), .lit (.string [97, 110, 100, 105]), .lit (.string [111, 114, 105]), .lit (.string [120, 111, 114, 105]), .lit (.string [115, 104, 108, 105]), .lit (.string [115, 104, 114, 105]), .lit (.string [115, 97, 114, 105]), .lit (.string [115, 108, 116, 105]), .lit (.string [108, 117, 105]), .lit (.string []), .lit (.string []), .lit (.string []), .lit (.string []), .lit (.string []), .lit (.string []), .lit (.string []), .lit (.string [108, 119]), .lit (.string [108, 98]), .lit (.string [108, 98, 117]), .lit (.string [115, 119]), .lit (.string [115, 98]), .lit (.string []), .lit (.string []), .lit (.string []), .lit (.string [98, 101, 113]), .lit (.string [98, 110, 101]), .lit (.string [98, 108, 116]), .lit (.string [98, 103, 101]), .lit (.string [98, 108, 116, 117]), .lit (.string [98, 103, 101, 117]), .lit (.string []), .lit (.string []), .lit (.string [106, 97, 108]), .lit (.string [106, 97, 108, 114]), .lit (.string []), .lit (.string []), .lit (.string []), .lit (.string []), .lit (.string []), .lit (.string []), .lit (.string [101, 99, 97, 108, 108]), .lit (.string [101, 114, 101, 116]), .lit (.string [99, 115, 114, 114]), .lit (.string [99, 115, 114, 119]), .lit (.string [105, 110]), .lit (.string [111, 117, 116]), .lit (.string [119, 102, 105]), .lit (.string [102, 108, 117, 115, 104]), .lit (.string [104, 97, 108, 116])]

/-- 'vmfleetlaw12.MachineNews': WHATEVER THE INPUT: true; the input reads as it did. -/
def machineNewsSpec : ChangeSpec := { name := "machineNews", fn := fun _ => fun
  | [d1, d2, d3, d4, d5] => { results := [.lit (.bool true)], args := [d1, d2, d3, d4, d5] }
  | _ => none }
def machineNewsRow : OpenClaim := { program := "ytageoaecepnfnaagreatdoor", sum := "88228f28f48dea28476efc8effaa6fc8ec83bbed20f20ba997c017a1c37006fb", func := "vmfleet/vmfleetlaw12.MachineNews", spec := "machineNews", named := ["math/bits.deBruijn32tab", "vmfleet/isa.names"], apart := false, laid := [("math/bits.deBruijn32tab", laid_math_bits_deBruijn32tab), ("vmfleet/isa.names", laid_vmfleet_isa_names)] }
def MachineNewsSaid : Prop := machineNewsRow.holds Tryz.pinned (OpenSpec.ofChange machineNewsSpec)

/-- ITS FALSE NEIGHBOUR: 'it returns false'. Refute it at one input. -/
def machineNewsWrong : ChangeSpec := { name := "machineNews", fn := fun _ => fun
  | [d1, d2, d3, d4, d5] => { results := [.lit (.bool false)], args := [d1, d2, d3, d4, d5] }
  | _ => none }
def MachineNewsWrongFalsely : Prop := machineNewsRow.holds Tryz.pinned (OpenSpec.ofChange machineNewsWrong)

/-- 'vmfleetlaw12.MachineInterrupts': WHATEVER THE INPUT: true; the input reads as it did. -/
def machineInterruptsSpec : ChangeSpec := { name := "machineInterrupts", fn := fun _ => fun
  | [d1, d2, d3, d4, d5, d6] => { results := [.lit (.bool true)], args := [d1, d2, d3, d4, d5, d6] }
  | _ => none }
def machineInterruptsRow : OpenClaim := { program := "ytageoaecepnfnaagreatdoor", sum := "88228f28f48dea28476efc8effaa6fc8ec83bbed20f20ba997c017a1c37006fb", func := "vmfleet/vmfleetlaw12.MachineInterrupts", spec := "machineInterrupts", recurses := true, named := ["math/bits.deBruijn32tab", "vmfleet/isa.names"], apart := false, laid := [("math/bits.deBruijn32tab", laid_math_bits_deBruijn32tab), ("vmfleet/isa.names", laid_vmfleet_isa_names)] }
def MachineInterruptsSaid : Prop := machineInterruptsRow.holds Tryz.pinned (OpenSpec.ofChange machineInterruptsSpec)

/-- ITS FALSE NEIGHBOUR: 'it returns false'. Refute it at one input. -/
def machineInterruptsWrong : ChangeSpec := { name := "machineInterrupts", fn := fun _ => fun
  | [d1, d2, d3, d4, d5, d6] => { results := [.lit (.bool false)], args := [d1, d2, d3, d4, d5, d6] }
  | _ => none }
def MachineInterruptsWrongFalsely : Prop := machineInterruptsRow.holds Tryz.pinned (OpenSpec.ofChange machineInterruptsWrong)

/-- 'vmfleetlaw12.MachineConfined': WHATEVER THE INPUT: true; the input reads as it did. -/
def machineConfinedSpec : ChangeSpec := { name := "machineConfined", fn := fun _ => fun
  | [d1, d2, d3] => { results := [.lit (.bool true)], args := [d1, d2, d3] }
  | _ => none }
def machineConfinedRow : OpenClaim := { program := "ytageoaecepnfnaagreatdoor", sum := "88228f28f48dea28476efc8effaa6fc8ec83bbed20f20ba997c017a1c37006fb", func := "vmfleet/vmfleetlaw12.MachineConfined", spec := "machineConfined", named := ["math/bits.deBruijn32tab", "vmfleet/isa.names"], apart := false, laid := [("math/bits.deBruijn32tab", laid_math_bits_deBruijn32tab), ("vmfleet/isa.names", laid_vmfleet_isa_names)] }
def MachineConfinedSaid : Prop := machineConfinedRow.holds Tryz.pinned (OpenSpec.ofChange machineConfinedSpec)

/-- ITS FALSE NEIGHBOUR: 'it returns false'. Refute it at one input. -/
def machineConfinedWrong : ChangeSpec := { name := "machineConfined", fn := fun _ => fun
  | [d1, d2, d3] => { results := [.lit (.bool false)], args := [d1, d2, d3] }
  | _ => none }
def MachineConfinedWrongFalsely : Prop := machineConfinedRow.holds Tryz.pinned (OpenSpec.ofChange machineConfinedWrong)

/-- 'vmfleetlaw12.MachineEncodes': WHATEVER THE INPUT: true; the input reads as it did. -/
def machineEncodesSpec : ChangeSpec := { name := "machineEncodes", fn := fun _ => fun
  | [d1, d2, d3, d4, d5, d6, d7] => { results := [.lit (.bool true)], args := [d1, d2, d3, d4, d5, d6, d7] }
  | _ => none }
def machineEncodesRow : OpenClaim := { program := "ytageoaecepnfnaagreatdoor", sum := "88228f28f48dea28476efc8effaa6fc8ec83bbed20f20ba997c017a1c37006fb", func := "vmfleet/vmfleetlaw12.MachineEncodes", spec := "machineEncodes", recurses := true, named := ["math/bits.deBruijn32tab", "vmfleet/isa.names"], apart := false, laid := [("math/bits.deBruijn32tab", laid_math_bits_deBruijn32tab), ("vmfleet/isa.names", laid_vmfleet_isa_names)] }
def MachineEncodesSaid : Prop := machineEncodesRow.holds Tryz.pinned (OpenSpec.ofChange machineEncodesSpec)

/-- ITS FALSE NEIGHBOUR: 'it returns false'. Refute it at one input. -/
def machineEncodesWrong : ChangeSpec := { name := "machineEncodes", fn := fun _ => fun
  | [d1, d2, d3, d4, d5, d6, d7] => { results := [.lit (.bool false)], args := [d1, d2, d3, d4, d5, d6, d7] }
  | _ => none }
def MachineEncodesWrongFalsely : Prop := machineEncodesRow.holds Tryz.pinned (OpenSpec.ofChange machineEncodesWrong)

/-- 'vmfleetlaw12.MachineTells': WHATEVER THE INPUT: true; the input reads as it did. -/
def machineTellsSpec : ChangeSpec := { name := "machineTells", fn := fun _ => fun
  | [d1, d2, d3, d4, d5, d6, d7] => { results := [.lit (.bool true)], args := [d1, d2, d3, d4, d5, d6, d7] }
  | _ => none }
def machineTellsRow : OpenClaim := { program := "ytageoaecepnfnaagreatdoor", sum := "88228f28f48dea28476efc8effaa6fc8ec83bbed20f20ba997c017a1c37006fb", func := "vmfleet/vmfleetlaw12.MachineTells", spec := "machineTells", recurses := true, named := ["math/bits.deBruijn32tab", "vmfleet/isa.names"], apart := false, laid := [("math/bits.deBruijn32tab", laid_math_bits_deBruijn32tab), ("vmfleet/isa.names", laid_vmfleet_isa_names)] }
def MachineTellsSaid : Prop := machineTellsRow.holds Tryz.pinned (OpenSpec.ofChange machineTellsSpec)

/-- ITS FALSE NEIGHBOUR: 'it returns false'. Refute it at one input. -/
def machineTellsWrong : ChangeSpec := { name := "machineTells", fn := fun _ => fun
  | [d1, d2, d3, d4, d5, d6, d7] => { results := [.lit (.bool false)], args := [d1, d2, d3, d4, d5, d6, d7] }
  | _ => none }
def MachineTellsWrongFalsely : Prop := machineTellsRow.holds Tryz.pinned (OpenSpec.ofChange machineTellsWrong)

/-- 'vmfleetlaw12.MachineApplies': WHATEVER THE INPUT: true; the input reads as it did. -/
def machineAppliesSpec : ChangeSpec := { name := "machineApplies", fn := fun _ => fun
  | [d1, d2, d3, d4, d5, d6, d7, d8, d9] => { results := [.lit (.bool true)], args := [d1, d2, d3, d4, d5, d6, d7, d8, d9] }
  | _ => none }
def machineAppliesRow : OpenClaim := { program := "ytageoaecepnfnaagreatdoor", sum := "88228f28f48dea28476efc8effaa6fc8ec83bbed20f20ba997c017a1c37006fb", func := "vmfleet/vmfleetlaw12.MachineApplies", spec := "machineApplies", recurses := true, named := ["math/bits.deBruijn32tab", "vmfleet/isa.names"], apart := false, laid := [("math/bits.deBruijn32tab", laid_math_bits_deBruijn32tab), ("vmfleet/isa.names", laid_vmfleet_isa_names)] }
def MachineAppliesSaid : Prop := machineAppliesRow.holds Tryz.pinned (OpenSpec.ofChange machineAppliesSpec)

/-- ITS FALSE NEIGHBOUR: 'it returns false'. Refute it at one input. -/
def machineAppliesWrong : ChangeSpec := { name := "machineApplies", fn := fun _ => fun
  | [d1, d2, d3, d4, d5, d6, d7, d8, d9] => { results := [.lit (.bool false)], args := [d1, d2, d3, d4, d5, d6, d7, d8, d9] }
  | _ => none }
def MachineAppliesWrongFalsely : Prop := machineAppliesRow.holds Tryz.pinned (OpenSpec.ofChange machineAppliesWrong)

/-- 'vmfleetlaw12.MachineHalted': WHATEVER THE INPUT: true; the input reads as it did. -/
def machineHaltedSpec : ChangeSpec := { name := "machineHalted", fn := fun _ => fun
  | [d1, d2, d3, d4, d5] => { results := [.lit (.bool true)], args := [d1, d2, d3, d4, d5] }
  | _ => none }
def machineHaltedRow : OpenClaim := { program := "ytageoaecepnfnaagreatdoor", sum := "88228f28f48dea28476efc8effaa6fc8ec83bbed20f20ba997c017a1c37006fb", func := "vmfleet/vmfleetlaw12.MachineHalted", spec := "machineHalted", recurses := true, named := ["math/bits.deBruijn32tab", "vmfleet/isa.names"], apart := false, laid := [("math/bits.deBruijn32tab", laid_math_bits_deBruijn32tab), ("vmfleet/isa.names", laid_vmfleet_isa_names)] }
def MachineHaltedSaid : Prop := machineHaltedRow.holds Tryz.pinned (OpenSpec.ofChange machineHaltedSpec)

/-- ITS FALSE NEIGHBOUR: 'it returns false'. Refute it at one input. -/
def machineHaltedWrong : ChangeSpec := { name := "machineHalted", fn := fun _ => fun
  | [d1, d2, d3, d4, d5] => { results := [.lit (.bool false)], args := [d1, d2, d3, d4, d5] }
  | _ => none }
def MachineHaltedWrongFalsely : Prop := machineHaltedRow.holds Tryz.pinned (OpenSpec.ofChange machineHaltedWrong)

/-- 'vmfleetlaw12.MachineCommutes': WHATEVER THE INPUT: true; the input reads as it did. -/
def machineCommutesSpec : ChangeSpec := { name := "machineCommutes", fn := fun _ => fun
  | [d1, d2, d3, d4, d5] => { results := [.lit (.bool true)], args := [d1, d2, d3, d4, d5] }
  | _ => none }
def machineCommutesRow : OpenClaim := { program := "ytageoaecepnfnaagreatdoor", sum := "88228f28f48dea28476efc8effaa6fc8ec83bbed20f20ba997c017a1c37006fb", func := "vmfleet/vmfleetlaw12.MachineCommutes", spec := "machineCommutes", recurses := true, named := ["math/bits.deBruijn32tab", "vmfleet/isa.names"], apart := false, laid := [("math/bits.deBruijn32tab", laid_math_bits_deBruijn32tab), ("vmfleet/isa.names", laid_vmfleet_isa_names)] }
def MachineCommutesSaid : Prop := machineCommutesRow.holds Tryz.pinned (OpenSpec.ofChange machineCommutesSpec)

/-- ITS FALSE NEIGHBOUR: 'it returns false'. Refute it at one input. -/
def machineCommutesWrong : ChangeSpec := { name := "machineCommutes", fn := fun _ => fun
  | [d1, d2, d3, d4, d5] => { results := [.lit (.bool false)], args := [d1, d2, d3, d4, d5] }
  | _ => none }
def MachineCommutesWrongFalsely : Prop := machineCommutesRow.holds Tryz.pinned (OpenSpec.ofChange machineCommutesWrong)

/-- 'vmfleetlaw12.MachineDma': WHATEVER THE INPUT: true; the input reads as it did. -/
def machineDmaSpec : ChangeSpec := { name := "machineDma", fn := fun _ => fun
  | [d1, d2, d3, d4] => { results := [.lit (.bool true)], args := [d1, d2, d3, d4] }
  | _ => none }
def machineDmaRow : OpenClaim := { program := "ytageoaecepnfnaagreatdoor", sum := "88228f28f48dea28476efc8effaa6fc8ec83bbed20f20ba997c017a1c37006fb", func := "vmfleet/vmfleetlaw12.MachineDma", spec := "machineDma", recurses := true, named := ["math/bits.deBruijn32tab", "vmfleet/isa.names"], apart := false, laid := [("math/bits.deBruijn32tab", laid_math_bits_deBruijn32tab), ("vmfleet/isa.names", laid_vmfleet_isa_names)] }
def MachineDmaSaid : Prop := machineDmaRow.holds Tryz.pinned (OpenSpec.ofChange machineDmaSpec)

/-- ITS FALSE NEIGHBOUR: 'it returns false'. Refute it at one input. -/
def machineDmaWrong : ChangeSpec := { name := "machineDma", fn := fun _ => fun
  | [d1, d2, d3, d4] => { results := [.lit (.bool false)], args := [d1, d2, d3, d4] }
  | _ => none }
def MachineDmaWrongFalsely : Prop := machineDmaRow.holds Tryz.pinned (OpenSpec.ofChange machineDmaWrong)

/-- 'vmfleetlaw12.MachinePorts': WHATEVER THE INPUT: true; the input reads as it did. -/
def machinePortsSpec : ChangeSpec := { name := "machinePorts", fn := fun _ => fun
  | [d1, d2] => { results := [.lit (.bool true)], args := [d1, d2] }
  | _ => none }
def machinePortsRow : OpenClaim := { program := "ytageoaecepnfnaagreatdoor", sum := "88228f28f48dea28476efc8effaa6fc8ec83bbed20f20ba997c017a1c37006fb", func := "vmfleet/vmfleetlaw12.MachinePorts", spec := "machinePorts", unfollowed := true, recurses := true, named := ["math/bits.deBruijn32tab", "vmfleet/isa.names"], apart := false, laid := [("math/bits.deBruijn32tab", laid_math_bits_deBruijn32tab), ("vmfleet/isa.names", laid_vmfleet_isa_names)] }
def MachinePortsSaid : Prop := machinePortsRow.holds Tryz.pinned (OpenSpec.ofChange machinePortsSpec)

/-- ITS FALSE NEIGHBOUR: 'it returns false'. Refute it at one input. -/
def machinePortsWrong : ChangeSpec := { name := "machinePorts", fn := fun _ => fun
  | [d1, d2] => { results := [.lit (.bool false)], args := [d1, d2] }
  | _ => none }
def MachinePortsWrongFalsely : Prop := machinePortsRow.holds Tryz.pinned (OpenSpec.ofChange machinePortsWrong)

/-- 'vmfleetlaw30.PrecopyCopies': WHATEVER THE INPUT: true; the input reads as it did. -/
def precopyCopiesSpec : ChangeSpec := { name := "precopyCopies", fn := fun _ => fun
  | [d1, d2, d3] => { results := [.lit (.bool true)], args := [d1, d2, d3] }
  | _ => none }
def precopyCopiesRow : OpenClaim := { program := "ytageoaecepnfnaagreatdoor", sum := "88228f28f48dea28476efc8effaa6fc8ec83bbed20f20ba997c017a1c37006fb", func := "vmfleet/vmfleetlaw30.PrecopyCopies", spec := "precopyCopies", unfollowed := true, recurses := true, named := ["math/bits.deBruijn32tab", "vmfleet/isa.names"], apart := false, laid := [("math/bits.deBruijn32tab", laid_math_bits_deBruijn32tab), ("vmfleet/isa.names", laid_vmfleet_isa_names)] }
def PrecopyCopiesSaid : Prop := precopyCopiesRow.holds Tryz.pinned (OpenSpec.ofChange precopyCopiesSpec)

/-- ITS FALSE NEIGHBOUR: 'it returns false'. Refute it at one input. -/
def precopyCopiesWrong : ChangeSpec := { name := "precopyCopies", fn := fun _ => fun
  | [d1, d2, d3] => { results := [.lit (.bool false)], args := [d1, d2, d3] }
  | _ => none }
def PrecopyCopiesWrongFalsely : Prop := precopyCopiesRow.holds Tryz.pinned (OpenSpec.ofChange precopyCopiesWrong)

/-- 'vmfleetlaw12.MachineKeeps': WHATEVER THE INPUT: true; the input reads as it did. -/
def machineKeepsSpec : ChangeSpec := { name := "machineKeeps", fn := fun _ => fun
  | [d1, d2, d3, d4, d5, d6, d7] => { results := [.lit (.bool true)], args := [d1, d2, d3, d4, d5, d6, d7] }
  | _ => none }
def machineKeepsRow : OpenClaim := { program := "ytageoaecepnfnaagreatdoor", sum := "88228f28f48dea28476efc8effaa6fc8ec83bbed20f20ba997c017a1c37006fb", func := "vmfleet/vmfleetlaw12.MachineKeeps", spec := "machineKeeps", recurses := true, named := ["math/bits.deBruijn32tab", "vmfleet/isa.names"], apart := false, laid := [("math/bits.deBruijn32tab", laid_math_bits_deBruijn32tab), ("vmfleet/isa.names", laid_vmfleet_isa_names)] }
def MachineKeepsSaid : Prop := machineKeepsRow.holds Tryz.pinned (OpenSpec.ofChange machineKeepsSpec)

/-- ITS FALSE NEIGHBOUR: 'it returns false'. Refute it at one input. -/
def machineKeepsWrong : ChangeSpec := { name := "machineKeeps", fn := fun _ => fun
  | [d1, d2, d3, d4, d5, d6, d7] => { results := [.lit (.bool false)], args := [d1, d2, d3, d4, d5, d6, d7] }
  | _ => none }
def MachineKeepsWrongFalsely : Prop := machineKeepsRow.holds Tryz.pinned (OpenSpec.ofChange machineKeepsWrong)

/- THE SECOND FORM. 'bulk': how many values and letters a reading holds, each counted each time it is reached (what is shared counts as often as it is met; a slice's spare places count too). A statement '..UptoSaid' is the law's where the arguments, and the package variables that the reading takes, are together of bulk at most 1048576: NARROWER than '..Said'. Prove '..Said' where nothing that the law and all that it calls make is longer than what came in: it says more and counts as full. Else prove '..UptoSaid'. A law counts once. -/
mutual
def uptoBulk {H : Type} : DataW H → Nat
  | .lit (.string bytes) => bytes.length + 1
  | .lit _ => 1
  | .nil => 1
  | .ptr d => uptoBulk d + 1
  | .slice elems spare => uptoBulkAll elems + uptoBulkAll spare + 1
  | .agg parts => uptoBulkAll parts + 1
  | .iface _ d => uptoBulk d + 1
  | .map entries => uptoBulkEntries entries + 1
  | .held _ => 1
def uptoBulkAll {H : Type} : List (DataW H) → Nat
  | [] => 0
  | d :: r => uptoBulk d + uptoBulkAll r
def uptoBulkEntries {H : Type} : List (Lit × DataW H) → Nat
  | [] => 0
  | x :: r => uptoBulkEntry x + uptoBulkEntries r
def uptoBulkEntry {H : Type} : Lit × DataW H → Nat
  | (.string bytes, d) => bytes.length + uptoBulk d + 1
  | (_, d) => uptoBulk d + 1
 end
def uptoSmall : (H : Type) → List (DataW H) → Bool := fun _ ds => decide (uptoBulkAll ds ≤ 1048576)
def OpenSpec.upto (s : _root_.Go.ChangeSpec) : _root_.Go.OpenSpec := { _root_.Go.OpenSpec.ofChange s with cond := some uptoSmall }

/-- 'vmfleetlaw12.MachineNews', WHERE WHAT IT READS IS OF BULK AT MOST 1048576: true; the input reads as it did. -/
def machineNewsUptoRow : OpenClaim := { program := "ytageoaecepnfnaagreatdoor", sum := "88228f28f48dea28476efc8effaa6fc8ec83bbed20f20ba997c017a1c37006fb", func := "vmfleet/vmfleetlaw12.MachineNews", spec := "machineNews", named := ["math/bits.deBruijn32tab", "vmfleet/isa.names"], apart := false, laid := [("math/bits.deBruijn32tab", laid_math_bits_deBruijn32tab), ("vmfleet/isa.names", laid_vmfleet_isa_names)], narrowed := true }
def MachineNewsUptoSaid : Prop := machineNewsUptoRow.holds Tryz.pinned (OpenSpec.upto machineNewsSpec)

/-- 'vmfleetlaw12.MachineInterrupts', WHERE WHAT IT READS IS OF BULK AT MOST 1048576: true; the input reads as it did. -/
def machineInterruptsUptoRow : OpenClaim := { program := "ytageoaecepnfnaagreatdoor", sum := "88228f28f48dea28476efc8effaa6fc8ec83bbed20f20ba997c017a1c37006fb", func := "vmfleet/vmfleetlaw12.MachineInterrupts", spec := "machineInterrupts", recurses := true, named := ["math/bits.deBruijn32tab", "vmfleet/isa.names"], apart := false, laid := [("math/bits.deBruijn32tab", laid_math_bits_deBruijn32tab), ("vmfleet/isa.names", laid_vmfleet_isa_names)], narrowed := true }
def MachineInterruptsUptoSaid : Prop := machineInterruptsUptoRow.holds Tryz.pinned (OpenSpec.upto machineInterruptsSpec)

/-- 'vmfleetlaw12.MachineConfined', WHERE WHAT IT READS IS OF BULK AT MOST 1048576: true; the input reads as it did. -/
def machineConfinedUptoRow : OpenClaim := { program := "ytageoaecepnfnaagreatdoor", sum := "88228f28f48dea28476efc8effaa6fc8ec83bbed20f20ba997c017a1c37006fb", func := "vmfleet/vmfleetlaw12.MachineConfined", spec := "machineConfined", named := ["math/bits.deBruijn32tab", "vmfleet/isa.names"], apart := false, laid := [("math/bits.deBruijn32tab", laid_math_bits_deBruijn32tab), ("vmfleet/isa.names", laid_vmfleet_isa_names)], narrowed := true }
def MachineConfinedUptoSaid : Prop := machineConfinedUptoRow.holds Tryz.pinned (OpenSpec.upto machineConfinedSpec)

/-- 'vmfleetlaw12.MachineEncodes', WHERE WHAT IT READS IS OF BULK AT MOST 1048576: true; the input reads as it did. -/
def machineEncodesUptoRow : OpenClaim := { program := "ytageoaecepnfnaagreatdoor", sum := "88228f28f48dea28476efc8effaa6fc8ec83bbed20f20ba997c017a1c37006fb", func := "vmfleet/vmfleetlaw12.MachineEncodes", spec := "machineEncodes", recurses := true, named := ["math/bits.deBruijn32tab", "vmfleet/isa.names"], apart := false, laid := [("math/bits.deBruijn32tab", laid_math_bits_deBruijn32tab), ("vmfleet/isa.names", laid_vmfleet_isa_names)], narrowed := true }
def MachineEncodesUptoSaid : Prop := machineEncodesUptoRow.holds Tryz.pinned (OpenSpec.upto machineEncodesSpec)

/-- 'vmfleetlaw12.MachineTells', WHERE WHAT IT READS IS OF BULK AT MOST 1048576: true; the input reads as it did. -/
def machineTellsUptoRow : OpenClaim := { program := "ytageoaecepnfnaagreatdoor", sum := "88228f28f48dea28476efc8effaa6fc8ec83bbed20f20ba997c017a1c37006fb", func := "vmfleet/vmfleetlaw12.MachineTells", spec := "machineTells", recurses := true, named := ["math/bits.deBruijn32tab", "vmfleet/isa.names"], apart := false, laid := [("math/bits.deBruijn32tab", laid_math_bits_deBruijn32tab), ("vmfleet/isa.names", laid_vmfleet_isa_names)], narrowed := true }
def MachineTellsUptoSaid : Prop := machineTellsUptoRow.holds Tryz.pinned (OpenSpec.upto machineTellsSpec)

/-- 'vmfleetlaw12.MachineApplies', WHERE WHAT IT READS IS OF BULK AT MOST 1048576: true; the input reads as it did. -/
def machineAppliesUptoRow : OpenClaim := { program := "ytageoaecepnfnaagreatdoor", sum := "88228f28f48dea28476efc8effaa6fc8ec83bbed20f20ba997c017a1c37006fb", func := "vmfleet/vmfleetlaw12.MachineApplies", spec := "machineApplies", recurses := true, named := ["math/bits.deBruijn32tab", "vmfleet/isa.names"], apart := false, laid := [("math/bits.deBruijn32tab", laid_math_bits_deBruijn32tab), ("vmfleet/isa.names", laid_vmfleet_isa_names)], narrowed := true }
def MachineAppliesUptoSaid : Prop := machineAppliesUptoRow.holds Tryz.pinned (OpenSpec.upto machineAppliesSpec)

/-- 'vmfleetlaw12.MachineHalted', WHERE WHAT IT READS IS OF BULK AT MOST 1048576: true; the input reads as it did. -/
def machineHaltedUptoRow : OpenClaim := { program := "ytageoaecepnfnaagreatdoor", sum := "88228f28f48dea28476efc8effaa6fc8ec83bbed20f20ba997c017a1c37006fb", func := "vmfleet/vmfleetlaw12.MachineHalted", spec := "machineHalted", recurses := true, named := ["math/bits.deBruijn32tab", "vmfleet/isa.names"], apart := false, laid := [("math/bits.deBruijn32tab", laid_math_bits_deBruijn32tab), ("vmfleet/isa.names", laid_vmfleet_isa_names)], narrowed := true }
def MachineHaltedUptoSaid : Prop := machineHaltedUptoRow.holds Tryz.pinned (OpenSpec.upto machineHaltedSpec)

/-- 'vmfleetlaw12.MachineCommutes', WHERE WHAT IT READS IS OF BULK AT MOST 1048576: true; the input reads as it did. -/
def machineCommutesUptoRow : OpenClaim := { program := "ytageoaecepnfnaagreatdoor", sum := "88228f28f48dea28476efc8effaa6fc8ec83bbed20f20ba997c017a1c37006fb", func := "vmfleet/vmfleetlaw12.MachineCommutes", spec := "machineCommutes", recurses := true, named := ["math/bits.deBruijn32tab", "vmfleet/isa.names"], apart := false, laid := [("math/bits.deBruijn32tab", laid_math_bits_deBruijn32tab), ("vmfleet/isa.names", laid_vmfleet_isa_names)], narrowed := true }
def MachineCommutesUptoSaid : Prop := machineCommutesUptoRow.holds Tryz.pinned (OpenSpec.upto machineCommutesSpec)

/-- 'vmfleetlaw12.MachineDma', WHERE WHAT IT READS IS OF BULK AT MOST 1048576: true; the input reads as it did. -/
def machineDmaUptoRow : OpenClaim := { program := "ytageoaecepnfnaagreatdoor", sum := "88228f28f48dea28476efc8effaa6fc8ec83bbed20f20ba997c017a1c37006fb", func := "vmfleet/vmfleetlaw12.MachineDma", spec := "machineDma", recurses := true, named := ["math/bits.deBruijn32tab", "vmfleet/isa.names"], apart := false, laid := [("math/bits.deBruijn32tab", laid_math_bits_deBruijn32tab), ("vmfleet/isa.names", laid_vmfleet_isa_names)], narrowed := true }
def MachineDmaUptoSaid : Prop := machineDmaUptoRow.holds Tryz.pinned (OpenSpec.upto machineDmaSpec)

/-- 'vmfleetlaw12.MachinePorts', WHERE WHAT IT READS IS OF BULK AT MOST 1048576: true; the input reads as it did. -/
def machinePortsUptoRow : OpenClaim := { program := "ytageoaecepnfnaagreatdoor", sum := "88228f28f48dea28476efc8effaa6fc8ec83bbed20f20ba997c017a1c37006fb", func := "vmfleet/vmfleetlaw12.MachinePorts", spec := "machinePorts", unfollowed := true, recurses := true, named := ["math/bits.deBruijn32tab", "vmfleet/isa.names"], apart := false, laid := [("math/bits.deBruijn32tab", laid_math_bits_deBruijn32tab), ("vmfleet/isa.names", laid_vmfleet_isa_names)], narrowed := true }
def MachinePortsUptoSaid : Prop := machinePortsUptoRow.holds Tryz.pinned (OpenSpec.upto machinePortsSpec)

/-- 'vmfleetlaw30.PrecopyCopies', WHERE WHAT IT READS IS OF BULK AT MOST 1048576: true; the input reads as it did. -/
def precopyCopiesUptoRow : OpenClaim := { program := "ytageoaecepnfnaagreatdoor", sum := "88228f28f48dea28476efc8effaa6fc8ec83bbed20f20ba997c017a1c37006fb", func := "vmfleet/vmfleetlaw30.PrecopyCopies", spec := "precopyCopies", unfollowed := true, recurses := true, named := ["math/bits.deBruijn32tab", "vmfleet/isa.names"], apart := false, laid := [("math/bits.deBruijn32tab", laid_math_bits_deBruijn32tab), ("vmfleet/isa.names", laid_vmfleet_isa_names)], narrowed := true }
def PrecopyCopiesUptoSaid : Prop := precopyCopiesUptoRow.holds Tryz.pinned (OpenSpec.upto precopyCopiesSpec)

/-- 'vmfleetlaw12.MachineKeeps', WHERE WHAT IT READS IS OF BULK AT MOST 1048576: true; the input reads as it did. -/
def machineKeepsUptoRow : OpenClaim := { program := "ytageoaecepnfnaagreatdoor", sum := "88228f28f48dea28476efc8effaa6fc8ec83bbed20f20ba997c017a1c37006fb", func := "vmfleet/vmfleetlaw12.MachineKeeps", spec := "machineKeeps", recurses := true, named := ["math/bits.deBruijn32tab", "vmfleet/isa.names"], apart := false, laid := [("math/bits.deBruijn32tab", laid_math_bits_deBruijn32tab), ("vmfleet/isa.names", laid_vmfleet_isa_names)], narrowed := true }
def MachineKeepsUptoSaid : Prop := machineKeepsUptoRow.holds Tryz.pinned (OpenSpec.upto machineKeepsSpec)

end Rows
end Go.Proofs.YtageoaecepnfnaaGreatDoor
