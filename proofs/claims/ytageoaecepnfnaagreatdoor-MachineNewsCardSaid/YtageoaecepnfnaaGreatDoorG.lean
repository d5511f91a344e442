/- The machine seat's glue: the package-level variables hold what the rows say, and the evaluator's tables are met. -/
import Derived.Test.YtageoaecepnfnaaGreatDoorT
import Derived.Test.YtageoaecepnfnaaGreatDoorSyI
import Derived.Test.YtageoaecepnfnaaGreatDoorRows
import Derived.Test.YtageoaecepnfnaaGreatDoorCards
import Derived.Test.YtageoaecepnfnaaGreatDoorTie
import Derived.ProofKit
import Derived.LaidMore
import Derived.OpenShut
import Derived.Stop.Joined
import Derived.SevenTiedAt
namespace Go.Proofs.YtageoaecepnfnaaGreatDoor
open Go Go.Sy Go.RowKit Go.ChangeShapes Go.WideShapes Go.ChangeAt
set_option maxRecDepth 100000
theorem own : ownKnob Tryz.prog.godebug = none := by kernel_rfl
def laid2 : List (String × DataW Unit) := [("math/bits.deBruijn32tab", Rows.laid_math_bits_deBruijn32tab), ("vmfleet/isa.names", Rows.laid_vmfleet_isa_names)]
theorem door_met (os : Os) (args : Array Value) : laidMetH Tryz.prog laid2 ((World.doorLaid Tryz.prog 29 os).forCall (fun _ _ => 0) ⟨#[], args, []⟩).memory :=
  laidMetH_of_parts3 (fuel := 8) (laidMet_of_run' 8 (by kernel_rfl) (by kernel_rfl)) (by kernel_rfl) (by kernel_rfl)
theorem e0 : (toDW (.arr 32 (.int .u8)) gv0 : DataW Unit) = Rows.laid_math_bits_deBruijn32tab := by kernel_rfl
theorem e1 : (toDW (.arr 65 .str) gv1 : DataW Unit) = Rows.laid_vmfleet_isa_names := by kernel_rfl
theorem gls_laid : GlLaid Tryz.prog laid2 gls :=
  ⟨⟨"math/bits.deBruijn32tab", 237, by rw [e0]; exact .head _, by kernel_rfl, by kernel_rfl, rfl, by kernel_rfl⟩,
   ⟨"vmfleet/isa.names", 295, by rw [e1]; exact .tail _ (.head _), by kernel_rfl, by kernel_rfl, rfl, by kernel_rfl⟩, trivial⟩
theorem gls_ok {W : World} (h : laidMetH Tryz.prog laid2 W) : GlR gls W (okAll W) := by
  rw [MakeChecks.laidMetH_plain _ _ _ (by kernel_rfl)] at h
  exact gl_of_laid h gls_laid
theorem laidOut : laidOutB Tryz.prog = true := by kernel_rfl
end Go.Proofs.YtageoaecepnfnaaGreatDoor
