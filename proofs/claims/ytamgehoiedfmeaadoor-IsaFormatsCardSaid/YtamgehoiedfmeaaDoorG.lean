/- Part of a law's proof: G. -/
import Derived.Test.YtamgehoiedfmeaaDoorT
import Derived.Test.YtamgehoiedfmeaaDoorSyI
import Derived.Test.YtamgehoiedfmeaaDoorRows
import Derived.Test.YtamgehoiedfmeaaDoorCards
import Derived.Test.YtamgehoiedfmeaaDoorTie
import Derived.ProofKit
import Derived.LaidMore
import Derived.OpenShut
import Derived.Stop.Joined
import Derived.SevenTiedAt
namespace Go.Proofs.YtamgehoiedfmeaaDoor
open Go Go.Sy Go.RowKit Go.ChangeShapes Go.WideShapes Go.ChangeAt
set_option maxRecDepth 100000
theorem own : ownKnob Tryd.prog.godebug = none := by kernel_rfl
def laid4 : List (String × DataW Unit) := [("math/bits.deBruijn32tab", Rows.laid_math_bits_deBruijn32tab), ("math/bits.deBruijn64tab", Rows.laid_math_bits_deBruijn64tab), ("internal/strconv.uint64pow10", Rows.laid_internal_strconv_uint64pow10), ("vmfleet/isa.names", Rows.laid_vmfleet_isa_names)]
theorem door_met (os : Os) (args : Array Value) : laidMetH Tryd.prog laid4 ((World.doorLaid Tryd.prog 29 os).forCall (fun _ _ => 0) ⟨#[], args, []⟩).memory :=
  laidMetH_of_parts3 (fuel := 8) (laidMet_of_run' 8 (by kernel_rfl) (by kernel_rfl)) (by kernel_rfl) (by kernel_rfl)
theorem e0 : (toDW (.arr 65 .str) gv0 : DataW Unit) = Rows.laid_vmfleet_isa_names := by kernel_rfl
theorem e1 : (toDW (.arr 20 (.int .u64)) gv1 : DataW Unit) = Rows.laid_internal_strconv_uint64pow10 := by kernel_rfl
theorem e2 : (toDW (.arr 32 (.int .u8)) gv2 : DataW Unit) = Rows.laid_math_bits_deBruijn32tab := by kernel_rfl
theorem e3 : (toDW (.arr 64 (.int .u8)) gv3 : DataW Unit) = Rows.laid_math_bits_deBruijn64tab := by kernel_rfl
theorem gls_laid : GlLaid Tryd.prog laid4 gls :=
  ⟨⟨"vmfleet/isa.names", 64, by rw [e0]; exact .tail _ (.tail _ (.tail _ (.head _))), by kernel_rfl, by kernel_rfl, rfl, by kernel_rfl⟩,
   ⟨"internal/strconv.uint64pow10", 75, by rw [e1]; exact .tail _ (.tail _ (.head _)), by kernel_rfl, by kernel_rfl, rfl, by kernel_rfl⟩,
   ⟨"math/bits.deBruijn32tab", 79, by rw [e2]; exact .head _, by kernel_rfl, by kernel_rfl, rfl, by kernel_rfl⟩,
   ⟨"math/bits.deBruijn64tab", 80, by rw [e3]; exact .tail _ (.head _), by kernel_rfl, by kernel_rfl, rfl, by kernel_rfl⟩, trivial⟩
theorem gls_ok {W : World} (h : laidMetH Tryd.prog laid4 W) : GlR gls W (okAll W) := by
  rw [MakeChecks.laidMetH_plain _ _ _ (by kernel_rfl)] at h
  exact gl_of_laid h gls_laid
theorem laidOut : laidOutB Tryd.prog = true := by kernel_rfl
end Go.Proofs.YtamgehoiedfmeaaDoor
