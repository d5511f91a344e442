/- The law IsaUnused holds: setting a field that an operation does not use makes the instruction invalid and its word undecodable; no condition. -/
import Derived.Test.YtamgehoiedfmeaaDoorG
import Derived.Test.YtamgehoiedfmeaaDoorP9
namespace Go.Proofs.YtamgehoiedfmeaaDoor.isaUnused
open Go Go.Sy Go.RowKit Go.ChangeShapes Go.WideShapes Go.ChangeAt
set_option maxRecDepth 100000
theorem law (x : Den (.cons (.int .i64) (.cons (.int .i64) .nil))) (_h : Wf (.cons (.int .i64) (.cons (.int .i64) .nil)) x) : G7 x = some (true, ()) := isaUnused x.1 x.2.1
theorem lifted (os : Os) (started : os.Started) (H : Type) (enc : TypeId × Value → H) :
    ReturnsInHanded {} Tryd.checked os 7 .any (fun w args => (Rows.isaUnusedSpec.pre enc Tryd.prog Tryd.f7 [] false w args ∧ laidMetH Tryd.prog laid4 w) ∧ sizedMet enc Tryd.prog Tryd.f7 (OpenSpec.ofChange Rows.isaUnusedSpec) false w args)
      (Rows.isaUnusedSpec.post enc Tryd.prog Tryd.f7 false true false false) := by
  refine returnsInHanded_of_change_and (C := Tryd.checked) (X := fun w _ => laidMetH Tryd.prog laid4 w) (fun _ _ _ hh h => h.of_heap hh) own started (by kernel_rfl) Tryd.func7
    (ChangeSpec.witness_shaped (enc := enc) (C := Tryd.checked) (os := os) (X := fun w _ => laidMetH Tryd.prog laid4 w) false (World.doorLaid Tryd.prog 29 os) #[.int .i64 0, .int .i64 0] 8 rfl (World.shaped_of_RefB (by kernel_rfl) (by kernel_rfl)) (by kernel_rfl) (by kernel_rfl) (by kernel_rfl) (door_met os _)) ?_
  intro W base args ds gs before hval hW _ _ hL _
  exact law_contract S7 law (by kernel_rfl) laidOut (by kernel_rfl) (tb := 4) (by kernel_rfl) Tryd.underlying4 rfl (fun ds hd => by
    have hd : ds.length = 2 := hd
    match ds, hd with
    | [d1, d2], _ => rfl) hval hW (gls_ok hL)
theorem over : Rows.IsaUnusedSaid :=
  OpenClaim.holds_of_wide 7 Tryd.f7 rfl rfl rfl rfl rfl rfl rfl ⟨rfl, rfl, rfl, rfl, rfl⟩ rfl rfl rfl rfl rfl (by kernel_rfl) Tryd.func7 (by kernel_rfl)
    (of_decide_eq_true (by kernel_rfl)) (by unfold Func.isWrapper; first | (rw [if_pos (by decide +kernel)]; kernel_rfl) | (rw [if_neg (by decide +kernel)]; exact ⟨rfl, rfl⟩))
    (fun os started H enc _ => lifted os started H enc)
theorem proved : Rows.IsaUnusedCardSaid :=
  Claim7.holds_tied_plain_at .later [] [.data, .data, .data, .data] true (true, "8fdb1d7a11c30ebb220d97c921f008fcf710fde60fb09c307ead0c30d043ee93") false
    over (fun _ h => by cases h) (by kernel_rfl) (fun _ h => by cases h) isaUnused_row_tie rfl ⟨rfl, rfl⟩ (by kernel_rfl) rfl
    (fun f fn hf hfn => by
      obtain rfl : f = 7 := Option.some.inj ((show Tryd.prog.funcNamed "vmfleet/vmfleetlaw2.IsaUnused" = some 7 by kernel_rfl).symm.trans hf) |>.symm
      obtain rfl : fn = Tryd.f7 := (Option.some.inj (Tryd.func7.symm.trans hfn)).symm
      exact ⟨by kernel_rfl, fun j t ht => by
        have hm : t ∈ Tryd.f7.params.toList := by simpa using Array.mem_of_getElem? ht
        have hall : (Tryd.f7.params.toList.all fun u => !Tryd.prog.wantsStandIn u) = true := by kernel_rfl
        exact (show Tryd.prog.wantsStandIn t = false by simpa using List.all_eq_true.1 hall t hm)⟩)
    (by kernel_rfl)
#print axioms proved
end Go.Proofs.YtamgehoiedfmeaaDoor.isaUnused
