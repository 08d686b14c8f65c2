/- The card of SegsConfines out of its abstract answer. The condition: the abstract answer for whatever is read. -/
import Derived.Test.YtdffpjbjpfolfaaDoorTd
import Derived.Test.YtdffpjbjpfolfaaDoorEg
import Derived.Test.YtdffpjbjpfolfaaDoorTie
import Derived.Test.YtdffpjbjpfolfaaDoorCards
namespace Go.Proofs.YtdffpjbjpfolfaaDoor
open Go Go.Eng Go.Eng.S Go.ChangeShapes Go.WideShapes Go.ChangeAt Go.RowKit Go.ChangeMaps

theorem segsConfines_laidOut : laidOutB Tryd.prog = true := by kernel_rfl
set_option maxRecDepth 100000 in
theorem segsConfines_lifted (hlaw : ∀ xs, Shs Tryd.prog [9] xs → C T 3 xs [] = some (.bool true, [])) (os : Os) (started : os.Started) (H : Type) (enc : TypeId × Value → H) :
    ReturnsInHanded {} Tryd.checked os 3 .any (fun w args => (Rows.segsConfinesSpec.pre enc Tryd.prog Tryd.f3 [] false w args ∧ laidMetH Tryd.prog laid1 w) ∧ sizedMet enc Tryd.prog Tryd.f3 (OpenSpec.ofChange Rows.segsConfinesSpec) false w args)
      (Rows.segsConfinesSpec.post enc Tryd.prog Tryd.f3 false true false false) := by
  refine returnsInHanded_of_change_and (C := Tryd.checked) (X := fun w _ => laidMetH Tryd.prog laid1 w) (fun _ _ _ hh h => h.of_heap hh) own started (by kernel_rfl) Tryd.func3
    (ChangeSpec.witness_shaped (enc := enc) (C := Tryd.checked) (os := os) (X := fun w _ => laidMetH Tryd.prog laid1 w) false (wit os) #[.string ⟨#[]⟩] 8 (wit_os _) (World.shaped_of_RefB (by kernel_rfl) (by kernel_rfl)) (by kernel_rfl) (by kernel_rfl) (by kernel_rfl) (door_met os _)) ?_
  intro W base args ds gs before hval hW _ _ hL _
  exact law_calls (fn := Tryd.f3) tab_ok2 fn_ok segsConfines_laidOut Tryd.call3 (by kernel_rfl) (by kernel_rfl) Tryd.underlying4 rfl
    (fun ds h => by
      match ds, h with
      | [d0], _ => rfl) (by rw [Tryd.params3]; exact hlaw) hval hW (laid_glob hL)

theorem segsConfines_of (hlaw : ∀ xs, Shs Tryd.prog [9] xs → C T 3 xs [] = some (.bool true, [])) : Rows.SegsConfinesSaid :=
  OpenClaim.holds_of_wide 3 Tryd.f3 rfl rfl rfl rfl rfl rfl rfl ⟨rfl, rfl, rfl, rfl, rfl⟩ rfl rfl rfl rfl rfl (by kernel_rfl) Tryd.func3 (by kernel_rfl)
    (of_decide_eq_true (by kernel_rfl)) (by unfold Func.isWrapper; first | (rw [if_pos (by decide +kernel)]; kernel_rfl) | (rw [if_neg (by decide +kernel)]; exact ⟨rfl, rfl⟩))
    (fun os started H enc _ => segsConfines_lifted hlaw os started H enc)

theorem segsConfines_card_of (hlaw : ∀ xs, Shs Tryd.prog [9] xs → C T 3 xs [] = some (.bool true, [])) : Rows.SegsConfinesCardSaid :=
  Claim7.holds_tied_plain_at .later [] [.data, .handle, .pinned] true (true, "23a6ad74718b9ea1e3bf130f0e21d66562b42806430d91a970c2db4443c69086") true
    (segsConfines_of hlaw) (fun _ h => by cases h) (by kernel_rfl) (fun _ h => by cases h) segsConfines_row_tie rfl ⟨rfl, rfl⟩ (by kernel_rfl) rfl
    (fun f fn hf hfn => by
      obtain rfl : f = 3 := Option.some.inj ((show Tryd.prog.funcNamed "doorkeeper/doorkeeperlaw16.SegsConfines" = some 3 by kernel_rfl).symm.trans hf) |>.symm
      obtain rfl : fn = Tryd.f3 := (Option.some.inj (Tryd.func3.symm.trans hfn)).symm
      exact ⟨by kernel_rfl, fun j t ht => (List.forall_mem_cons.2 ⟨by kernel_rfl, fun _ h => nomatch h⟩ : ∀ t ∈ [9], Tryd.prog.wantsStandIn t = false) t (List.mem_of_getElem? (i := j) (by rw [Tryd.params3] at ht; simpa using ht))⟩)
    (by kernel_rfl)
end Go.Proofs.YtdffpjbjpfolfaaDoor
