/-
  NARROWER THAN 'FOR EVERY INPUT', by the rows' own cells (each row's printed sentence says how): IsaEncodes: laid · IsaDecodes: laid · IsaFormats: laid · IsaBits: laid · IsaUnused: laid · IsaOps: laid · IsaBlocks: laid.
  DERIVED. THE GIVEN ROWS OF THIS SEAT. 7 by the template 'for every input the law returns true; each argument reads behind the call as it read before'; 0 by the template 'total and deterministic' (their statements: YtamgehoiedfmeaaDoorTotals.lean).
  GIVEN WITH THE SEED: the statements are not yours to turn. If you find one false, say at which input.
  Laid BY PROGRAM, IN A SANDBOX (cutbox-rows.mjs): the forced cells as the released guide's own fill.sh prints them over the translation 61e0ebfcac85a641… (all of the seat's roots in one cut). By AI agents, Wed Nov 11 2026. No macro, syntax, notation, axiom, sorry.
-/
import Derived.Test.YtamgehoiedfmeaaDoorChecked
import GoSem.Claim
import GoSem.ClaimJoined
import GoSem.ClaimMapViews
import Derived.JoinedTies
import Derived.KernelRfl
namespace Go.Proofs.YtamgehoiedfmeaaDoor
/- THE CELL 'sum', in the pinned program and in every row, IS THE sha256 OF THE DUMP (.gsa) THAT YtamgehoiedfmeaaDoorProg.lean LOADS. Nothing in Lean hashes anything: it is a label: what it is worth is what the hold of that sum in a sandbox is worth. -/
noncomputable def Tryd.pinned : Pinned := { name := "ytamgehoiedfmeaadoor", sum := "61e0ebfcac85a641b4a9fe3ec2bfda4594b35a897e40ca29f19cb893f9d144c6", checked := Tryd.checked }
namespace Rows
def none {H : Type} : Left H := { results := [], args := [] }

/- WHAT THE LISTED PACKAGE-LEVEL VARIABLES READ AS WHEN THE CALL BEGINS. Each datum BY PROGRAM (the guide's laid-datum.mjs) off the statement by which the dump's own 'gosem.cut.vars' lays the variable. In a bare row this is a premise. The card (YtamgehoiedfmeaaDoorCards.lean) ties it to the program's text. -/
def laid_math_bits_deBruijn32tab {H : Type} : DataW H := .agg [.lit (.int .u8 0), .lit (.int .u8 1), .lit (.int .u8 28), .lit (.int .u8 2), .lit (.int .u8 29), .lit (.int .u8 14), .lit (.int .u8 24), .lit (.int .u8 3), .lit (.int .u8 30), .lit (.int .u8 22), .lit (.int .u8 20), .lit (.int .u8 15), .lit (.int .u8 25), .lit (.int .u8 17), .lit (.int .u8 4), .lit (.int .u8 8), .lit (.int .u8 31), .lit (.int .u8 27), .lit (.int .u8 13), .lit (.int .u8 23), .lit (.int .u8 21), .lit (.int .u8 19), .lit (.int .u8 16), .lit (.int .u8 7), .lit (.int .u8 26), .lit (.int .u8 12), .lit (.int .u8 18), .lit (.int .u8 6), .lit (.int .u8 11), .lit (.int .u8 5), .lit (.int .u8 10), .lit (.int .u8 9)]
def laid_math_bits_deBruijn64tab {H : Type} : DataW H := .agg [.lit (.int .u8 0), .lit (.int .u8 1), .lit (.int .u8 56), .lit (.int .u8 2), .lit (.int .u8 57), .lit (.int .u8 49), .lit (.int .u8 28), .lit (.int .u8 3), .lit (.int .u8 61), .lit (.int .u8 58), .lit (.int .u8 42), .lit (.int .u8 50), .lit (.int .u8 38), .lit (.int .u8 29), .lit (.int .u8 17), .lit (.int .u8 4), .lit (.int .u8 62), .lit (.int .u8 47), .lit (.int .u8 59), .lit (.int .u8 36), .lit (.int .u8 45), .lit (.int .u8 43), .lit (.int .u8 51), .lit (.int .u8 22), .lit (.int .u8 53), .lit (.int .u8 39), .lit (.int .u8 33), .lit (.int .u8 30), .lit (.int .u8 24), .lit (.int .u8 18), .lit (.int .u8 12), .lit (.int .u8 5), .lit (.int .u8 63), .lit (.int .u8 55), .lit (.int .u8 48), .lit (.int .u8 27), .lit (.int .u8 60), .lit (.int .u8 41), .lit (.int .u8 37), .lit (.int .u8 16), .lit (.int .u8 46), .lit (.int .u8 35), .lit (.int .u8 44), .lit (.int .u8 21), .lit (.int .u8 52), .lit (.int .u8 32), .lit (.int .u8 23), .lit (.int .u8 11), .lit (.int .u8 54), .lit (.int .u8 26), .lit (.int .u8 40), .lit (.int .u8 15), .lit (.int .u8 34), .lit (.int .u8 20), .lit (.int .u8 31), .lit (.int .u8 10), .lit (.int .u8 25), .lit (.int .u8 14), .lit (.int .u8 19), .lit (.int .u8 9), .lit (.int .u8 13), .lit (.int .u8 8), .lit (.int .u8 7), .lit (.int .u8 6)]
def laid_internal_strconv_uint64pow10 {H : Type} : DataW H := .agg [.lit (.int .u64 1), .lit (.int .u64 10), .lit (.int .u64 100), .lit (.int .u64 1000), .lit (.int .u64 10000), .lit (.int .u64 100000), .lit (.int .u64 1000000), .lit (.int .u64 10000000), .lit (.int .u64 100000000), .lit (.int .u64 1000000000), .lit (.int .u64 10000000000), .lit (.int .u64 100000000000), .lit (.int .u64 1000000000000), .lit (.int .u64 10000000000000), .lit (.int .u64 100000000000000), .lit (.int .u64 1000000000000000), .lit (.int .u64 10000000000000000), .lit (.int .u64 100000000000000000), .lit (.int .u64 1000000000000000000), .lit (.int .u64 10000000000000000000)]
def laid_vmfleet_isa_names {H : Type} : DataW H := .agg [.lit (.string []), .lit (.string [97, 100, 100]), .lit (.string [115, 117, 98]), .lit (.string [97, 110, 100]), .lit (.string [111, 114]), .lit (.string [120, 111, 114]), .lit (.string [115, 104, 108]), .lit (.string [115, 104, 114]), .lit (.string [115, 97, 114]), .lit (.string [109, 117, 108]), .lit (.string [100, 105, 118]), .lit (.string [114, 101, 109]), .lit (.string [115, 108, 116]), .lit (.string [115, 108, 116, 117]), .lit (.string []), .lit (.string []), .lit (.string [97, 100, 100, 105]), .lit (.string [97, 110, 100, 105]), .lit (.string [111, 114, 105]), .lit (.string [120, 111, 114, 105]), .lit (.string [115, 104, 108, 105]), .lit (.string [115, 104, 114, 105]), .lit (.string [115, 97, 114, 105]), .lit (.string [115, 108, 116, 105]), .lit (.string [108, 117, 105]), .lit (.string []), .lit (.string []), .lit (.string []), .lit (.string []), .lit (.string []), .lit (.string []), .lit (.string []), .lit (.string [108, 119]), .lit (.string [108, 98]), .lit (.string [108, 98, 117]), .lit (.string [115, 119]), .lit (.string [115, 98]), .lit (.string []), .lit (.string []), .lit (.string []), .lit (.string [98, 101, 113]), .lit (.string [98, 110, 101]), .lit (.string [98, 108, 116]), .lit (.string [98, 103, 101]), .lit (.string [98, 108, 116, 117]), .lit (.string [98, 103, 101, 117]), .lit (.string []), .lit (.string []), .lit (.string [106, 97, 108]), .lit (.string [106, 97, 108, 114]), .lit (.string []), .lit (.string []), .lit (.string []), .lit (.string []), .lit (.string []), .lit (.string []), .lit (.string [101, 99, 97, 108, 108]), .lit (.string [101, 114, 101, 116]), .lit (.string [99, 115, 114, 114]), .lit (.string [99, 115, 114, 119]), .lit (.string [105, 110]), .lit (.string [111, 117, 116]), .lit (.string [119, 102, 105]), .lit (.string [102, 108, 117, 115, 104]), .lit (.string [104, 97, 108, 116])]

/-- 'vmfleetlaw2.IsaEncodes': WHATEVER THE INPUT: true; the input reads as it did. -/
def isaEncodesSpec : ChangeSpec := { name := "isaEncodes", fn := fun _ => fun
  | [d1, d2, d3] => { results := [.lit (.bool true)], args := [d1, d2, d3] }
  | _ => none }
def isaEncodesRow : OpenClaim := { program := "ytamgehoiedfmeaadoor", sum := "61e0ebfcac85a641b4a9fe3ec2bfda4594b35a897e40ca29f19cb893f9d144c6", func := "vmfleet/vmfleetlaw2.IsaEncodes", spec := "isaEncodes", named := ["vmfleet/isa.names", "internal/strconv.uint64pow10", "math/bits.deBruijn32tab", "math/bits.deBruijn64tab"], apart := false, laid := [("math/bits.deBruijn32tab", laid_math_bits_deBruijn32tab), ("math/bits.deBruijn64tab", laid_math_bits_deBruijn64tab), ("internal/strconv.uint64pow10", laid_internal_strconv_uint64pow10), ("vmfleet/isa.names", laid_vmfleet_isa_names)] }
def IsaEncodesSaid : Prop := isaEncodesRow.holds Tryd.pinned (OpenSpec.ofChange isaEncodesSpec)

/-- ITS FALSE NEIGHBOUR: 'it returns false'. Refute it at one input. -/
def isaEncodesWrong : ChangeSpec := { name := "isaEncodes", fn := fun _ => fun
  | [d1, d2, d3] => { results := [.lit (.bool false)], args := [d1, d2, d3] }
  | _ => none }
def IsaEncodesWrongFalsely : Prop := isaEncodesRow.holds Tryd.pinned (OpenSpec.ofChange isaEncodesWrong)

/-- 'vmfleetlaw2.IsaDecodes': WHATEVER THE INPUT: true; the input reads as it did. -/
def isaDecodesSpec : ChangeSpec := { name := "isaDecodes", fn := fun _ => fun
  | [d1, d2, d3] => { results := [.lit (.bool true)], args := [d1, d2, d3] }
  | _ => none }
def isaDecodesRow : OpenClaim := { program := "ytamgehoiedfmeaadoor", sum := "61e0ebfcac85a641b4a9fe3ec2bfda4594b35a897e40ca29f19cb893f9d144c6", func := "vmfleet/vmfleetlaw2.IsaDecodes", spec := "isaDecodes", named := ["vmfleet/isa.names", "internal/strconv.uint64pow10", "math/bits.deBruijn32tab", "math/bits.deBruijn64tab"], apart := false, laid := [("math/bits.deBruijn32tab", laid_math_bits_deBruijn32tab), ("math/bits.deBruijn64tab", laid_math_bits_deBruijn64tab), ("internal/strconv.uint64pow10", laid_internal_strconv_uint64pow10), ("vmfleet/isa.names", laid_vmfleet_isa_names)] }
def IsaDecodesSaid : Prop := isaDecodesRow.holds Tryd.pinned (OpenSpec.ofChange isaDecodesSpec)

/-- ITS FALSE NEIGHBOUR: 'it returns false'. Refute it at one input. -/
def isaDecodesWrong : ChangeSpec := { name := "isaDecodes", fn := fun _ => fun
  | [d1, d2, d3] => { results := [.lit (.bool false)], args := [d1, d2, d3] }
  | _ => none }
def IsaDecodesWrongFalsely : Prop := isaDecodesRow.holds Tryd.pinned (OpenSpec.ofChange isaDecodesWrong)

/-- 'vmfleetlaw2.IsaFormats': WHATEVER THE INPUT: true; the input reads as it did. -/
def isaFormatsSpec : ChangeSpec := { name := "isaFormats", fn := fun _ => fun
  | [d1, d2, d3, d4, d5] => { results := [.lit (.bool true)], args := [d1, d2, d3, d4, d5] }
  | _ => none }
def isaFormatsRow : OpenClaim := { program := "ytamgehoiedfmeaadoor", sum := "61e0ebfcac85a641b4a9fe3ec2bfda4594b35a897e40ca29f19cb893f9d144c6", func := "vmfleet/vmfleetlaw2.IsaFormats", spec := "isaFormats", recurses := true, named := ["vmfleet/isa.names", "internal/strconv.uint64pow10", "math/bits.deBruijn32tab", "math/bits.deBruijn64tab"], apart := false, laid := [("math/bits.deBruijn32tab", laid_math_bits_deBruijn32tab), ("math/bits.deBruijn64tab", laid_math_bits_deBruijn64tab), ("internal/strconv.uint64pow10", laid_internal_strconv_uint64pow10), ("vmfleet/isa.names", laid_vmfleet_isa_names)] }
def IsaFormatsSaid : Prop := isaFormatsRow.holds Tryd.pinned (OpenSpec.ofChange isaFormatsSpec)

/-- ITS FALSE NEIGHBOUR: 'it returns false'. Refute it at one input. -/
def isaFormatsWrong : ChangeSpec := { name := "isaFormats", fn := fun _ => fun
  | [d1, d2, d3, d4, d5] => { results := [.lit (.bool false)], args := [d1, d2, d3, d4, d5] }
  | _ => none }
def IsaFormatsWrongFalsely : Prop := isaFormatsRow.holds Tryd.pinned (OpenSpec.ofChange isaFormatsWrong)

/-- 'vmfleetlaw2.IsaBits': WHATEVER THE INPUT: true; the input reads as it did. -/
def isaBitsSpec : ChangeSpec := { name := "isaBits", fn := fun _ => fun
  | [d1, d2] => { results := [.lit (.bool true)], args := [d1, d2] }
  | _ => none }
def isaBitsRow : OpenClaim := { program := "ytamgehoiedfmeaadoor", sum := "61e0ebfcac85a641b4a9fe3ec2bfda4594b35a897e40ca29f19cb893f9d144c6", func := "vmfleet/vmfleetlaw2.IsaBits", spec := "isaBits", named := ["vmfleet/isa.names", "internal/strconv.uint64pow10", "math/bits.deBruijn32tab", "math/bits.deBruijn64tab"], apart := false, laid := [("math/bits.deBruijn32tab", laid_math_bits_deBruijn32tab), ("math/bits.deBruijn64tab", laid_math_bits_deBruijn64tab), ("internal/strconv.uint64pow10", laid_internal_strconv_uint64pow10), ("vmfleet/isa.names", laid_vmfleet_isa_names)] }
def IsaBitsSaid : Prop := isaBitsRow.holds Tryd.pinned (OpenSpec.ofChange isaBitsSpec)

/-- ITS FALSE NEIGHBOUR: 'it returns false'. Refute it at one input. -/
def isaBitsWrong : ChangeSpec := { name := "isaBits", fn := fun _ => fun
  | [d1, d2] => { results := [.lit (.bool false)], args := [d1, d2] }
  | _ => none }
def IsaBitsWrongFalsely : Prop := isaBitsRow.holds Tryd.pinned (OpenSpec.ofChange isaBitsWrong)

/-- 'vmfleetlaw2.IsaUnused': WHATEVER THE INPUT: true; the input reads as it did. -/
def isaUnusedSpec : ChangeSpec := { name := "isaUnused", fn := fun _ => fun
  | [d1, d2] => { results := [.lit (.bool true)], args := [d1, d2] }
  | _ => none }
def isaUnusedRow : OpenClaim := { program := "ytamgehoiedfmeaadoor", sum := "61e0ebfcac85a641b4a9fe3ec2bfda4594b35a897e40ca29f19cb893f9d144c6", func := "vmfleet/vmfleetlaw2.IsaUnused", spec := "isaUnused", named := ["vmfleet/isa.names", "internal/strconv.uint64pow10", "math/bits.deBruijn32tab", "math/bits.deBruijn64tab"], apart := false, laid := [("math/bits.deBruijn32tab", laid_math_bits_deBruijn32tab), ("math/bits.deBruijn64tab", laid_math_bits_deBruijn64tab), ("internal/strconv.uint64pow10", laid_internal_strconv_uint64pow10), ("vmfleet/isa.names", laid_vmfleet_isa_names)] }
def IsaUnusedSaid : Prop := isaUnusedRow.holds Tryd.pinned (OpenSpec.ofChange isaUnusedSpec)

/-- ITS FALSE NEIGHBOUR: 'it returns false'. Refute it at one input. -/
def isaUnusedWrong : ChangeSpec := { name := "isaUnused", fn := fun _ => fun
  | [d1, d2] => { results := [.lit (.bool false)], args := [d1, d2] }
  | _ => none }
def IsaUnusedWrongFalsely : Prop := isaUnusedRow.holds Tryd.pinned (OpenSpec.ofChange isaUnusedWrong)

/-- 'vmfleetlaw2.IsaOps': WHATEVER THE INPUT: true; the input reads as it did. -/
def isaOpsSpec : ChangeSpec := { name := "isaOps", fn := fun _ => fun
  | [d] => { results := [.lit (.bool true)], args := [d] }
  | _ => none }
def isaOpsRow : OpenClaim := { program := "ytamgehoiedfmeaadoor", sum := "61e0ebfcac85a641b4a9fe3ec2bfda4594b35a897e40ca29f19cb893f9d144c6", func := "vmfleet/vmfleetlaw2.IsaOps", spec := "isaOps", named := ["vmfleet/isa.names", "internal/strconv.uint64pow10", "math/bits.deBruijn32tab", "math/bits.deBruijn64tab"], apart := false, laid := [("math/bits.deBruijn32tab", laid_math_bits_deBruijn32tab), ("math/bits.deBruijn64tab", laid_math_bits_deBruijn64tab), ("internal/strconv.uint64pow10", laid_internal_strconv_uint64pow10), ("vmfleet/isa.names", laid_vmfleet_isa_names)] }
def IsaOpsSaid : Prop := isaOpsRow.holds Tryd.pinned (OpenSpec.ofChange isaOpsSpec)

/-- ITS FALSE NEIGHBOUR: 'it returns false'. Refute it at one input. -/
def isaOpsWrong : ChangeSpec := { name := "isaOps", fn := fun _ => fun
  | [d] => { results := [.lit (.bool false)], args := [d] }
  | _ => none }
def IsaOpsWrongFalsely : Prop := isaOpsRow.holds Tryd.pinned (OpenSpec.ofChange isaOpsWrong)

/-- 'vmfleetlaw2.IsaBlocks': WHATEVER THE INPUT: true; the input reads as it did. -/
def isaBlocksSpec : ChangeSpec := { name := "isaBlocks", fn := fun _ => fun
  | [d] => { results := [.lit (.bool true)], args := [d] }
  | _ => none }
def isaBlocksRow : OpenClaim := { program := "ytamgehoiedfmeaadoor", sum := "61e0ebfcac85a641b4a9fe3ec2bfda4594b35a897e40ca29f19cb893f9d144c6", func := "vmfleet/vmfleetlaw2.IsaBlocks", spec := "isaBlocks", named := ["vmfleet/isa.names", "internal/strconv.uint64pow10", "math/bits.deBruijn32tab", "math/bits.deBruijn64tab"], apart := false, laid := [("math/bits.deBruijn32tab", laid_math_bits_deBruijn32tab), ("math/bits.deBruijn64tab", laid_math_bits_deBruijn64tab), ("internal/strconv.uint64pow10", laid_internal_strconv_uint64pow10), ("vmfleet/isa.names", laid_vmfleet_isa_names)] }
def IsaBlocksSaid : Prop := isaBlocksRow.holds Tryd.pinned (OpenSpec.ofChange isaBlocksSpec)

/-- ITS FALSE NEIGHBOUR: 'it returns false'. Refute it at one input. -/
def isaBlocksWrong : ChangeSpec := { name := "isaBlocks", fn := fun _ => fun
  | [d] => { results := [.lit (.bool false)], args := [d] }
  | _ => none }
def IsaBlocksWrongFalsely : Prop := isaBlocksRow.holds Tryd.pinned (OpenSpec.ofChange isaBlocksWrong)

/- THE SECOND FORM. 'bulk': how many values and letters a reading holds, each counted each time it is reached (what is shared counts as often as it is met; a slice's spare places count too). A statement '..UptoSaid' is the law's where the arguments, and the package variables that the reading takes, are together of bulk at most 1048576: NARROWER than '..Said'. Prove '..Said' where nothing that the law and all that it calls make is longer than what came in: it says more and counts as full. Else prove '..UptoSaid'. A law counts once. -/
mutual
def uptoBulk {H : Type} : DataW H → Nat
  | .lit (.string bytes) => bytes.length + 1
  | .lit _ => 1
  | .nil => 1
  | .ptr d => uptoBulk d + 1
  | .slice elems spare => uptoBulkAll elems + uptoBulkAll spare + 1
  | .agg parts => uptoBulkAll parts + 1
  | .iface _ d => uptoBulk d + 1
  | .map entries => uptoBulkEntries entries + 1
  | .held _ => 1
def uptoBulkAll {H : Type} : List (DataW H) → Nat
  | [] => 0
  | d :: r => uptoBulk d + uptoBulkAll r
def uptoBulkEntries {H : Type} : List (Lit × DataW H) → Nat
  | [] => 0
  | x :: r => uptoBulkEntry x + uptoBulkEntries r
def uptoBulkEntry {H : Type} : Lit × DataW H → Nat
  | (.string bytes, d) => bytes.length + uptoBulk d + 1
  | (_, d) => uptoBulk d + 1
 end
def uptoSmall : (H : Type) → List (DataW H) → Bool := fun _ ds => decide (uptoBulkAll ds ≤ 1048576)
def OpenSpec.upto (s : _root_.Go.ChangeSpec) : _root_.Go.OpenSpec := { _root_.Go.OpenSpec.ofChange s with cond := some uptoSmall }

/-- 'vmfleetlaw2.IsaEncodes', WHERE WHAT IT READS IS OF BULK AT MOST 1048576: true; the input reads as it did. -/
def isaEncodesUptoRow : OpenClaim := { program := "ytamgehoiedfmeaadoor", sum := "61e0ebfcac85a641b4a9fe3ec2bfda4594b35a897e40ca29f19cb893f9d144c6", func := "vmfleet/vmfleetlaw2.IsaEncodes", spec := "isaEncodes", named := ["vmfleet/isa.names", "internal/strconv.uint64pow10", "math/bits.deBruijn32tab", "math/bits.deBruijn64tab"], apart := false, laid := [("math/bits.deBruijn32tab", laid_math_bits_deBruijn32tab), ("math/bits.deBruijn64tab", laid_math_bits_deBruijn64tab), ("internal/strconv.uint64pow10", laid_internal_strconv_uint64pow10), ("vmfleet/isa.names", laid_vmfleet_isa_names)], narrowed := true }
def IsaEncodesUptoSaid : Prop := isaEncodesUptoRow.holds Tryd.pinned (OpenSpec.upto isaEncodesSpec)

/-- 'vmfleetlaw2.IsaDecodes', WHERE WHAT IT READS IS OF BULK AT MOST 1048576: true; the input reads as it did. -/
def isaDecodesUptoRow : OpenClaim := { program := "ytamgehoiedfmeaadoor", sum := "61e0ebfcac85a641b4a9fe3ec2bfda4594b35a897e40ca29f19cb893f9d144c6", func := "vmfleet/vmfleetlaw2.IsaDecodes", spec := "isaDecodes", named := ["vmfleet/isa.names", "internal/strconv.uint64pow10", "math/bits.deBruijn32tab", "math/bits.deBruijn64tab"], apart := false, laid := [("math/bits.deBruijn32tab", laid_math_bits_deBruijn32tab), ("math/bits.deBruijn64tab", laid_math_bits_deBruijn64tab), ("internal/strconv.uint64pow10", laid_internal_strconv_uint64pow10), ("vmfleet/isa.names", laid_vmfleet_isa_names)], narrowed := true }
def IsaDecodesUptoSaid : Prop := isaDecodesUptoRow.holds Tryd.pinned (OpenSpec.upto isaDecodesSpec)

/-- 'vmfleetlaw2.IsaFormats', WHERE WHAT IT READS IS OF BULK AT MOST 1048576: true; the input reads as it did. -/
def isaFormatsUptoRow : OpenClaim := { program := "ytamgehoiedfmeaadoor", sum := "61e0ebfcac85a641b4a9fe3ec2bfda4594b35a897e40ca29f19cb893f9d144c6", func := "vmfleet/vmfleetlaw2.IsaFormats", spec := "isaFormats", recurses := true, named := ["vmfleet/isa.names", "internal/strconv.uint64pow10", "math/bits.deBruijn32tab", "math/bits.deBruijn64tab"], apart := false, laid := [("math/bits.deBruijn32tab", laid_math_bits_deBruijn32tab), ("math/bits.deBruijn64tab", laid_math_bits_deBruijn64tab), ("internal/strconv.uint64pow10", laid_internal_strconv_uint64pow10), ("vmfleet/isa.names", laid_vmfleet_isa_names)], narrowed := true }
def IsaFormatsUptoSaid : Prop := isaFormatsUptoRow.holds Tryd.pinned (OpenSpec.upto isaFormatsSpec)

/-- 'vmfleetlaw2.IsaBits', WHERE WHAT IT READS IS OF BULK AT MOST 1048576: true; the input reads as it did. -/
def isaBitsUptoRow : OpenClaim := { program := "ytamgehoiedfmeaadoor", sum := "61e0ebfcac85a641b4a9fe3ec2bfda4594b35a897e40ca29f19cb893f9d144c6", func := "vmfleet/vmfleetlaw2.IsaBits", spec := "isaBits", named := ["vmfleet/isa.names", "internal/strconv.uint64pow10", "math/bits.deBruijn32tab", "math/bits.deBruijn64tab"], apart := false, laid := [("math/bits.deBruijn32tab", laid_math_bits_deBruijn32tab), ("math/bits.deBruijn64tab", laid_math_bits_deBruijn64tab), ("internal/strconv.uint64pow10", laid_internal_strconv_uint64pow10), ("vmfleet/isa.names", laid_vmfleet_isa_names)], narrowed := true }
def IsaBitsUptoSaid : Prop := isaBitsUptoRow.holds Tryd.pinned (OpenSpec.upto isaBitsSpec)

/-- 'vmfleetlaw2.IsaUnused', WHERE WHAT IT READS IS OF BULK AT MOST 1048576: true; the input reads as it did. -/
def isaUnusedUptoRow : OpenClaim := { program := "ytamgehoiedfmeaadoor", sum := "61e0ebfcac85a641b4a9fe3ec2bfda4594b35a897e40ca29f19cb893f9d144c6", func := "vmfleet/vmfleetlaw2.IsaUnused", spec := "isaUnused", named := ["vmfleet/isa.names", "internal/strconv.uint64pow10", "math/bits.deBruijn32tab", "math/bits.deBruijn64tab"], apart := false, laid := [("math/bits.deBruijn32tab", laid_math_bits_deBruijn32tab), ("math/bits.deBruijn64tab", laid_math_bits_deBruijn64tab), ("internal/strconv.uint64pow10", laid_internal_strconv_uint64pow10), ("vmfleet/isa.names", laid_vmfleet_isa_names)], narrowed := true }
def IsaUnusedUptoSaid : Prop := isaUnusedUptoRow.holds Tryd.pinned (OpenSpec.upto isaUnusedSpec)

/-- 'vmfleetlaw2.IsaOps', WHERE WHAT IT READS IS OF BULK AT MOST 1048576: true; the input reads as it did. -/
def isaOpsUptoRow : OpenClaim := { program := "ytamgehoiedfmeaadoor", sum := "61e0ebfcac85a641b4a9fe3ec2bfda4594b35a897e40ca29f19cb893f9d144c6", func := "vmfleet/vmfleetlaw2.IsaOps", spec := "isaOps", named := ["vmfleet/isa.names", "internal/strconv.uint64pow10", "math/bits.deBruijn32tab", "math/bits.deBruijn64tab"], apart := false, laid := [("math/bits.deBruijn32tab", laid_math_bits_deBruijn32tab), ("math/bits.deBruijn64tab", laid_math_bits_deBruijn64tab), ("internal/strconv.uint64pow10", laid_internal_strconv_uint64pow10), ("vmfleet/isa.names", laid_vmfleet_isa_names)], narrowed := true }
def IsaOpsUptoSaid : Prop := isaOpsUptoRow.holds Tryd.pinned (OpenSpec.upto isaOpsSpec)

/-- 'vmfleetlaw2.IsaBlocks', WHERE WHAT IT READS IS OF BULK AT MOST 1048576: true; the input reads as it did. -/
def isaBlocksUptoRow : OpenClaim := { program := "ytamgehoiedfmeaadoor", sum := "61e0ebfcac85a641b4a9fe3ec2bfda4594b35a897e40ca29f19cb893f9d144c6", func := "vmfleet/vmfleetlaw2.IsaBlocks", spec := "isaBlocks", named := ["vmfleet/isa.names", "internal/strconv.uint64pow10", "math/bits.deBruijn32tab", "math/bits.deBruijn64tab"], apart := false, laid := [("math/bits.deBruijn32tab", laid_math_bits_deBruijn32tab), ("math/bits.deBruijn64tab", laid_math_bits_deBruijn64tab), ("internal/strconv.uint64pow10", laid_internal_strconv_uint64pow10), ("vmfleet/isa.names", laid_vmfleet_isa_names)], narrowed := true }
def IsaBlocksUptoSaid : Prop := isaBlocksUptoRow.holds Tryd.pinned (OpenSpec.upto isaBlocksSpec)

end Rows
end Go.Proofs.YtamgehoiedfmeaaDoor
