/- The law IsaFormats holds: every instruction is formatted as specified and two valid instructions have the same format only if they are equal; no condition. -/
import Derived.Test.YtamgehoiedfmeaaDoorG
import Derived.Test.YtamgehoiedfmeaaDoorF3
namespace Go.Proofs.YtamgehoiedfmeaaDoor.isaFormats
open Go Go.Sy Go.RowKit Go.ChangeShapes Go.WideShapes Go.ChangeAt
set_option maxRecDepth 100000
theorem law (x : Den (.cons (.cons (.int .i64) (.cons (.int .i64) (.cons (.int .i64) (.cons (.int .i64) (.cons (.int .i32) .nil))))) (.cons (.cons (.int .i64) (.cons (.int .i64) (.cons (.int .i64) (.cons (.int .i64) (.cons (.int .i32) .nil))))) (.cons (.int .i64) (.cons (.int .i64) (.cons .bool .nil)))))) (_h : Wf (.cons (.cons (.int .i64) (.cons (.int .i64) (.cons (.int .i64) (.cons (.int .i64) (.cons (.int .i32) .nil))))) (.cons (.cons (.int .i64) (.cons (.int .i64) (.cons (.int .i64) (.cons (.int .i64) (.cons (.int .i32) .nil))))) (.cons (.int .i64) (.cons (.int .i64) (.cons .bool .nil))))) x) : G5 x = some (true, ()) := isaFormats x.1 x.2.1 x.2.2.1 x.2.2.2.1 x.2.2.2.2.1
theorem lifted (os : Os) (started : os.Started) (H : Type) (enc : TypeId × Value → H) :
    ReturnsInHanded {} Tryd.checked os 5 .any (fun w args => (Rows.isaFormatsSpec.pre enc Tryd.prog Tryd.f5 [] false w args ∧ laidMetH Tryd.prog laid4 w) ∧ sizedMet enc Tryd.prog Tryd.f5 (OpenSpec.ofChange Rows.isaFormatsSpec) false w args)
      (Rows.isaFormatsSpec.post enc Tryd.prog Tryd.f5 false true false false) := by
  refine returnsInHanded_of_change_and (C := Tryd.checked) (X := fun w _ => laidMetH Tryd.prog laid4 w) (fun _ _ _ hh h => h.of_heap hh) own started (by kernel_rfl) Tryd.func5
    (ChangeSpec.witness_shaped (enc := enc) (C := Tryd.checked) (os := os) (X := fun w _ => laidMetH Tryd.prog laid4 w) false (World.doorLaid Tryd.prog 29 os) #[.agg #[.int .i64 0, .int .i64 0, .int .i64 0, .int .i64 0, .int .i32 0], .agg #[.int .i64 0, .int .i64 0, .int .i64 0, .int .i64 0, .int .i32 0], .int .i64 0, .int .i64 0, .bool false] 8 rfl (World.shaped_of_RefB (by kernel_rfl) (by kernel_rfl)) (by kernel_rfl) (by kernel_rfl) (by kernel_rfl) (door_met os _)) ?_
  intro W base args ds gs before hval hW _ _ hL _
  exact law_contract S5 law (by kernel_rfl) laidOut (by kernel_rfl) (tb := 4) (by kernel_rfl) Tryd.underlying4 rfl (fun ds hd => by
    have hd : ds.length = 5 := hd
    match ds, hd with
    | [d1, d2, d3, d4, d5], _ => rfl) hval hW (gls_ok hL)
theorem over : Rows.IsaFormatsSaid :=
  OpenClaim.holds_of_wide 5 Tryd.f5 rfl rfl rfl rfl rfl rfl rfl ⟨rfl, rfl, rfl, rfl, rfl⟩ rfl rfl rfl rfl rfl (by kernel_rfl) Tryd.func5 (by kernel_rfl)
    (of_decide_eq_true (by kernel_rfl)) (by unfold Func.isWrapper; first | (rw [if_pos (by decide +kernel)]; kernel_rfl) | (rw [if_neg (by decide +kernel)]; exact ⟨rfl, rfl⟩))
    (fun os started H enc _ => lifted os started H enc)
theorem proved : Rows.IsaFormatsCardSaid :=
  Claim7.holds_tied_plain_at .later [] [.data, .data, .data, .data] true (true, "8fdb1d7a11c30ebb220d97c921f008fcf710fde60fb09c307ead0c30d043ee93") false
    over (fun _ h => by cases h) (by kernel_rfl) (fun _ h => by cases h) isaFormats_row_tie rfl ⟨rfl, rfl⟩ (by kernel_rfl) rfl
    (fun f fn hf hfn => by
      obtain rfl : f = 5 := Option.some.inj ((show Tryd.prog.funcNamed "vmfleet/vmfleetlaw2.IsaFormats" = some 5 by kernel_rfl).symm.trans hf) |>.symm
      obtain rfl : fn = Tryd.f5 := (Option.some.inj (Tryd.func5.symm.trans hfn)).symm
      exact ⟨by kernel_rfl, fun j t ht => by
        have hm : t ∈ Tryd.f5.params.toList := by simpa using Array.mem_of_getElem? ht
        have hall : (Tryd.f5.params.toList.all fun u => !Tryd.prog.wantsStandIn u) = true := by kernel_rfl
        exact (show Tryd.prog.wantsStandIn t = false by simpa using List.all_eq_true.1 hall t hm)⟩)
    (by kernel_rfl)
#print axioms proved
end Go.Proofs.YtamgehoiedfmeaaDoor.isaFormats
