/- The law MachineNews holds: for all sizes and every image the new machine is as specified and valid; no condition. -/
import Derived.Test.YtageoaecepnfnaaGreatDoorG
import Derived.Test.YtageoaecepnfnaaGreatDoorP
namespace Go.Proofs.YtageoaecepnfnaaGreatDoor.machineNews
open Go Go.Sy Go.RowKit Go.ChangeShapes Go.WideShapes Go.ChangeAt
set_option maxRecDepth 100000
theorem eb : elemBytes Tryz.prog 23 = 8 := by kernel_rfl
theorem law (x : Den (.cons (.int .i64) (.cons (.int .i64) (.cons (.sl (.int .u32)) (.cons (.sl (.int .i64)) (.cons .bool .nil)))))) (_h : Wf (.cons (.int .i64) (.cons (.int .i64) (.cons (.sl (.int .u32)) (.cons (.sl (.int .i64)) (.cons .bool .nil))))) x) (hs : WfS Tryz.prog (.cons (.int .i64) (.cons (.int .i64) (.cons (.sl (.int .u32)) (.cons (.sl (.int .i64)) (.cons .bool .nil))))) Tryz.f3.params.toList x) : G3 x = some (true, ()) := by
  have hs : x.2.2.1.length * elemBytes Tryz.prog 22 ≤ reachBytes ∧ x.2.2.2.1.length * elemBytes Tryz.prog 23 ≤ reachBytes ∧ True := hs
  have h8 := hs.2.1
  rw [eb] at h8
  exact machineNews x.1 x.2.1 x.2.2.1 x.2.2.2.1 x.2.2.2.2.1 (Nat.le_trans h8 (by decide))
theorem lifted (os : Os) (started : os.Started) (H : Type) (enc : TypeId × Value → H) :
    ReturnsInHanded {} Tryz.checked os 3 .any (fun w args => (Rows.machineNewsSpec.pre enc Tryz.prog Tryz.f3 [] false w args ∧ laidMetH Tryz.prog laid2 w) ∧ sizedMet enc Tryz.prog Tryz.f3 (OpenSpec.ofChange Rows.machineNewsSpec) false w args)
      (Rows.machineNewsSpec.post enc Tryz.prog Tryz.f3 false true false false) := by
  refine returnsInHanded_of_change_and (C := Tryz.checked) (X := fun w _ => laidMetH Tryz.prog laid2 w) (fun _ _ _ hh h => h.of_heap hh) own started (by kernel_rfl) Tryz.func3
    (ChangeSpec.witness_shaped (enc := enc) (C := Tryz.checked) (os := os) (X := fun w _ => laidMetH Tryz.prog laid2 w) false (World.doorLaid Tryz.prog 29 os) #[.int .i64 0, .int .i64 0, .slice none 0 0, .slice none 0 0, .bool false] 8 rfl (World.shaped_of_RefB (by kernel_rfl) (by kernel_rfl)) (by kernel_rfl) (by kernel_rfl) (by kernel_rfl) (door_met os _)) ?_
  intro W base args ds gs before hval hW _ hwt hL _
  exact law_contractS S3 law (by kernel_rfl) laidOut (by kernel_rfl) (tb := 4) (by kernel_rfl) Tryz.underlying4 rfl (fun ds hd => by
    have hd : ds.length = 5 := hd
    match ds, hd with
    | [d1, d2, d3, d4, d5], _ => rfl) hval hW (gls_ok hL) hwt
theorem named : Tryz.prog.funcNamed "vmfleet/vmfleetlaw12.MachineNews" = some 3 := by kernel_rfl
theorem facts : joinedFacts Tryz.pinned.checked.prog 3 Tryz.f3 Rows.machineNewsSpec Rows.machineNewsRow = true := by kernel_rfl
theorem inst : Tryz.f3.isInstance Tryz.pinned.checked.prog Rows.machineNewsRow.origin Rows.machineNewsRow.targs := of_decide_eq_true (by kernel_rfl)
theorem wrap : Tryz.f3.isWrapper Tryz.pinned.checked.prog Rows.machineNewsRow.wrapper Rows.machineNewsRow.mainSum := by unfold Func.isWrapper; first | (rw [if_pos (by decide +kernel)]; kernel_rfl) | (rw [if_neg (by decide +kernel)]; exact ⟨rfl, rfl⟩)
theorem over : Rows.MachineNewsSaid :=
  OpenClaim.holds_of_wide 3 Tryz.f3 rfl rfl rfl rfl rfl rfl rfl ⟨rfl, rfl, rfl, rfl, rfl⟩ rfl rfl rfl rfl rfl named Tryz.func3 facts inst wrap
    (fun os started H enc _ => lifted os started H enc)
theorem proved : Rows.MachineNewsCardSaid :=
  Claim7.holds_tied_plain_at .later [] [.data, .data] true (true, "543d6ebaafd17010143fc4001f22278ad20557d1351d4db6b26320f932ce18ad") false
    over (fun _ h => by cases h) (by kernel_rfl) (fun _ h => by cases h) machineNews_row_tie rfl ⟨rfl, rfl⟩ (by kernel_rfl) rfl
    (fun f fn hf hfn => by
      obtain rfl : f = 3 := Option.some.inj (named.symm.trans hf) |>.symm
      obtain rfl : fn = Tryz.f3 := (Option.some.inj (Tryz.func3.symm.trans hfn)).symm
      exact ⟨by kernel_rfl, fun j t ht => by
        have hm : t ∈ Tryz.f3.params.toList := by simpa using Array.mem_of_getElem? ht
        have hall : (Tryz.f3.params.toList.all fun u => !Tryz.prog.wantsStandIn u) = true := by kernel_rfl
        exact (show Tryz.prog.wantsStandIn t = false by simpa using List.all_eq_true.1 hall t hm)⟩)
    (by kernel_rfl)
#print axioms proved
end Go.Proofs.YtageoaecepnfnaaGreatDoor.machineNews
