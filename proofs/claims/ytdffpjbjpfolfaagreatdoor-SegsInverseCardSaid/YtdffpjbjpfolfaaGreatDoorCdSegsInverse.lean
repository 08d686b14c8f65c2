/- The card of SegsInverse out of its abstract answer. The condition: the abstract answer for whatever is read. -/
import Derived.Test.YtdffpjbjpfolfaaGreatDoorTd
import Derived.Test.YtdffpjbjpfolfaaGreatDoorEg
import Derived.Test.YtdffpjbjpfolfaaGreatDoorTie
import Derived.Test.YtdffpjbjpfolfaaGreatDoorCards
namespace Go.Proofs.YtdffpjbjpfolfaaGreatDoor
open Go Go.Eng Go.Eng.S Go.ChangeShapes Go.WideShapes Go.ChangeAt Go.RowKit Go.ChangeMaps

theorem segsInverse_laidOut : laidOutB Tryz.prog = true := by kernel_rfl
set_option maxRecDepth 100000 in
theorem segsInverse_lifted (hlaw : ∀ xs, Shs Tryz.prog [23, 4] xs → C T 4 xs [] = some (.bool true, [])) (os : Os) (started : os.Started) (H : Type) (enc : TypeId × Value → H) :
    ReturnsInHanded {} Tryz.checked os 4 .any (fun w args => (Rows.segsInverseSpec.pre enc Tryz.prog Tryz.f4 [] false w args ∧ laidMetH Tryz.prog laid1 w) ∧ sizedMet enc Tryz.prog Tryz.f4 (OpenSpec.ofChange Rows.segsInverseSpec) false w args)
      (Rows.segsInverseSpec.post enc Tryz.prog Tryz.f4 false true false false) := by
  refine returnsInHanded_of_change_and (C := Tryz.checked) (X := fun w _ => laidMetH Tryz.prog laid1 w) (fun _ _ _ hh h => h.of_heap hh) own started (by kernel_rfl) Tryz.func4
    (ChangeSpec.witness_shaped (enc := enc) (C := Tryz.checked) (os := os) (X := fun w _ => laidMetH Tryz.prog laid1 w) false (wit os) #[.slice none 0 0, .bool false] 8 (wit_os _) (World.shaped_of_RefB (by kernel_rfl) (by kernel_rfl)) (by kernel_rfl) (by kernel_rfl) (by kernel_rfl) (door_met os _)) ?_
  intro W base args ds gs before hval hW _ _ hL _
  exact law_calls (fn := Tryz.f4) tab_ok2 fn_ok segsInverse_laidOut Tryz.call4 (by kernel_rfl) (by kernel_rfl) Tryz.underlying4 rfl
    (fun ds h => by
      match ds, h with
      | [d0, d1], _ => rfl) (by rw [Tryz.params4]; exact hlaw) hval hW (laid_glob hL)

theorem segsInverse_of (hlaw : ∀ xs, Shs Tryz.prog [23, 4] xs → C T 4 xs [] = some (.bool true, [])) : Rows.SegsInverseSaid :=
  OpenClaim.holds_of_wide 4 Tryz.f4 rfl rfl rfl rfl rfl rfl rfl ⟨rfl, rfl, rfl, rfl, rfl⟩ rfl rfl rfl rfl rfl (by kernel_rfl) Tryz.func4 (by kernel_rfl)
    (of_decide_eq_true (by kernel_rfl)) (by unfold Func.isWrapper; first | (rw [if_pos (by decide +kernel)]; kernel_rfl) | (rw [if_neg (by decide +kernel)]; exact ⟨rfl, rfl⟩))
    (fun os started H enc _ => segsInverse_lifted hlaw os started H enc)

theorem segsInverse_card_of (hlaw : ∀ xs, Shs Tryz.prog [23, 4] xs → C T 4 xs [] = some (.bool true, [])) : Rows.SegsInverseCardSaid :=
  Claim7.holds_tied_plain_at .later [] [.data, .handle, .pinned] true (true, "ecd3885366b20ee93421940d730b4c6232161caf179f367eadfe531829851863") true
    (segsInverse_of hlaw) (fun _ h => by cases h) (by kernel_rfl) (fun _ h => by cases h) segsInverse_row_tie rfl ⟨rfl, rfl⟩ (by kernel_rfl) rfl
    (fun f fn hf hfn => by
      obtain rfl : f = 4 := Option.some.inj ((show Tryz.prog.funcNamed "doorkeeper/doorkeeperlaw16.SegsInverse" = some 4 by kernel_rfl).symm.trans hf) |>.symm
      obtain rfl : fn = Tryz.f4 := (Option.some.inj (Tryz.func4.symm.trans hfn)).symm
      exact ⟨by kernel_rfl, fun j t ht => (List.forall_mem_cons.2 ⟨by kernel_rfl, List.forall_mem_cons.2 ⟨by kernel_rfl, fun _ h => nomatch h⟩⟩ : ∀ t ∈ [23, 4], Tryz.prog.wantsStandIn t = false) t (List.mem_of_getElem? (i := j) (by rw [Tryz.params4] at ht; simpa using ht))⟩)
    (by kernel_rfl)
end Go.Proofs.YtdffpjbjpfolfaaGreatDoor
