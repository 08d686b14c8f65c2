/- The card of SegsParses out of its abstract answer. The condition: the abstract answer for whatever is read. -/
import Derived.Test.YtdffpjbjpfolfaaGreatDoorTd
import Derived.Test.YtdffpjbjpfolfaaGreatDoorEg
import Derived.Test.YtdffpjbjpfolfaaGreatDoorTie
import Derived.Test.YtdffpjbjpfolfaaGreatDoorCards
namespace Go.Proofs.YtdffpjbjpfolfaaGreatDoor
open Go Go.Eng Go.Eng.S Go.ChangeShapes Go.WideShapes Go.ChangeAt Go.RowKit Go.ChangeMaps

theorem segsParses_laidOut : laidOutB Tryz.prog = true := by kernel_rfl
set_option maxRecDepth 100000 in
theorem segsParses_lifted (hlaw : ∀ xs, Shs Tryz.prog [9] xs → C T 3 xs [] = some (.bool true, [])) (os : Os) (started : os.Started) (H : Type) (enc : TypeId × Value → H) :
    ReturnsInHanded {} Tryz.checked os 3 .any (fun w args => (Rows.segsParsesSpec.pre enc Tryz.prog Tryz.f3 [] false w args ∧ laidMetH Tryz.prog laid1 w) ∧ sizedMet enc Tryz.prog Tryz.f3 (OpenSpec.ofChange Rows.segsParsesSpec) false w args)
      (Rows.segsParsesSpec.post enc Tryz.prog Tryz.f3 false true false false) := by
  refine returnsInHanded_of_change_and (C := Tryz.checked) (X := fun w _ => laidMetH Tryz.prog laid1 w) (fun _ _ _ hh h => h.of_heap hh) own started (by kernel_rfl) Tryz.func3
    (ChangeSpec.witness_shaped (enc := enc) (C := Tryz.checked) (os := os) (X := fun w _ => laidMetH Tryz.prog laid1 w) false (wit os) #[.string ⟨#[]⟩] 8 (wit_os _) (World.shaped_of_RefB (by kernel_rfl) (by kernel_rfl)) (by kernel_rfl) (by kernel_rfl) (by kernel_rfl) (door_met os _)) ?_
  intro W base args ds gs before hval hW _ _ hL _
  exact law_calls (fn := Tryz.f3) tab_ok2 fn_ok segsParses_laidOut Tryz.call3 (by kernel_rfl) (by kernel_rfl) Tryz.underlying4 rfl
    (fun ds h => by
      match ds, h with
      | [d0], _ => rfl) (by rw [Tryz.params3]; exact hlaw) hval hW (laid_glob hL)

theorem segsParses_of (hlaw : ∀ xs, Shs Tryz.prog [9] xs → C T 3 xs [] = some (.bool true, [])) : Rows.SegsParsesSaid :=
  OpenClaim.holds_of_wide 3 Tryz.f3 rfl rfl rfl rfl rfl rfl rfl ⟨rfl, rfl, rfl, rfl, rfl⟩ rfl rfl rfl rfl rfl (by kernel_rfl) Tryz.func3 (by kernel_rfl)
    (of_decide_eq_true (by kernel_rfl)) (by unfold Func.isWrapper; first | (rw [if_pos (by decide +kernel)]; kernel_rfl) | (rw [if_neg (by decide +kernel)]; exact ⟨rfl, rfl⟩))
    (fun os started H enc _ => segsParses_lifted hlaw os started H enc)

theorem segsParses_card_of (hlaw : ∀ xs, Shs Tryz.prog [9] xs → C T 3 xs [] = some (.bool true, [])) : Rows.SegsParsesCardSaid :=
  Claim7.holds_tied_plain_at .later [] [.data, .handle, .pinned] true (true, "ecd3885366b20ee93421940d730b4c6232161caf179f367eadfe531829851863") true
    (segsParses_of hlaw) (fun _ h => by cases h) (by kernel_rfl) (fun _ h => by cases h) segsParses_row_tie rfl ⟨rfl, rfl⟩ (by kernel_rfl) rfl
    (fun f fn hf hfn => by
      obtain rfl : f = 3 := Option.some.inj ((show Tryz.prog.funcNamed "doorkeeper/doorkeeperlaw16.SegsParses" = some 3 by kernel_rfl).symm.trans hf) |>.symm
      obtain rfl : fn = Tryz.f3 := (Option.some.inj (Tryz.func3.symm.trans hfn)).symm
      exact ⟨by kernel_rfl, fun j t ht => (List.forall_mem_cons.2 ⟨by kernel_rfl, fun _ h => nomatch h⟩ : ∀ t ∈ [9], Tryz.prog.wantsStandIn t = false) t (List.mem_of_getElem? (i := j) (by rw [Tryz.params3] at ht; simpa using ht))⟩)
    (by kernel_rfl)
end Go.Proofs.YtdffpjbjpfolfaaGreatDoor
