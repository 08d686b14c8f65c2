/- The card of SerialSplits out of its abstract answer. The condition: the abstract answer for whatever is read. -/
import Derived.Test.YtgjgcjhmaibblaaGreatDoorTd
import Derived.Test.YtgjgcjhmaibblaaGreatDoorEg
import Derived.Test.YtgjgcjhmaibblaaGreatDoorTie
import Derived.Test.YtgjgcjhmaibblaaGreatDoorCards
namespace Go.Proofs.YtgjgcjhmaibblaaGreatDoor
open Go Go.Eng Go.Eng.S Go.ChangeShapes Go.WideShapes Go.ChangeAt Go.RowKit Go.ChangeMaps

theorem serialSplits_laidOut : laidOutB Tryz.prog = true := by kernel_rfl
set_option maxRecDepth 100000 in
theorem serialSplits_lifted (hlaw : ∀ m xs, Shs Tryz.prog [27, 34] xs → @C (@T (sitB m)) 5 xs [] = some (.bool true, [])) (os : Os) (started : os.Started) (H : Type) (enc : TypeId × Value → H) :
    ReturnsInHanded {} Tryz.checked os 5 .any (fun w args => (Rows.serialSplitsSpec.pre enc Tryz.prog Tryz.f5 [] false w args ∧ laidMetH Tryz.prog laid1 w) ∧ sizedMet enc Tryz.prog Tryz.f5 (OpenSpec.ofChange Rows.serialSplitsSpec) false w args)
      (Rows.serialSplitsSpec.post enc Tryz.prog Tryz.f5 false true false false) := by
  refine handed_shaped (C := Tryz.checked) (X := fun w _ => laidMetH Tryz.prog laid1 w) (fun _ _ _ hh h => h.of_heap hh) own started (by kernel_rfl) Tryz.func5
    (ChangeSpec.witness_shaped (enc := enc) (C := Tryz.checked) (os := os) (X := fun w _ => laidMetH Tryz.prog laid1 w) false (wit os) #[.slice none 0 0, .slice none 0 0] 8 (wit_os _) (World.shaped_of_RefB (by kernel_rfl) (by kernel_rfl)) (by kernel_rfl) (by kernel_rfl) (by kernel_rfl) (door_met os _)) ?_
  intro W base args ds gs before hval hW hsh hL
  obtain ⟨m, hm⟩ := max_of hsh
  exact law_calls (T := @T (sitB m)) (fn := Tryz.f5) (@tab_ok2 (sitB m)) (fn_okB m) serialSplits_laidOut Tryz.call5 (by kernel_rfl) (by kernel_rfl) Tryz.underlying4 rfl
    (fun ds h => by
      match ds, h with
      | [d0, d1], _ => rfl) (by rw [Tryz.params5]; exact hlaw m) hval hW (laid_glob m hm hL)

theorem serialSplits_of (hlaw : ∀ m xs, Shs Tryz.prog [27, 34] xs → @C (@T (sitB m)) 5 xs [] = some (.bool true, [])) : Rows.SerialSplitsSaid :=
  OpenClaim.holds_of_wide 5 Tryz.f5 rfl rfl rfl rfl rfl rfl rfl ⟨rfl, rfl, rfl, rfl, rfl⟩ rfl rfl rfl rfl rfl (by kernel_rfl) Tryz.func5 (by kernel_rfl)
    (of_decide_eq_true (by kernel_rfl)) (by unfold Func.isWrapper; first | (rw [if_pos (by decide +kernel)]; kernel_rfl) | (rw [if_neg (by decide +kernel)]; exact ⟨rfl, rfl⟩))
    (fun os started H enc _ => serialSplits_lifted hlaw os started H enc)

theorem serialSplits_card_of (hlaw : ∀ m xs, Shs Tryz.prog [27, 34] xs → @C (@T (sitB m)) 5 xs [] = some (.bool true, [])) : Rows.SerialSplitsCardSaid :=
  Claim7.holds_tied_plain_at .later [] [.data, .data, .data] true (true, "5df545c6631969087cc2c7044331923cfce5f8fac06e33f82906e8e1dc0a4c03") true
    (serialSplits_of hlaw) (fun _ h => by cases h) (by kernel_rfl) (fun _ h => by cases h) serialSplits_row_tie rfl ⟨rfl, rfl⟩ (by kernel_rfl) rfl
    (fun f fn hf hfn => by
      obtain rfl : f = 5 := Option.some.inj ((show Tryz.prog.funcNamed "doorkeeper/doorkeeperlaw26.SerialSplits" = some 5 by kernel_rfl).symm.trans hf) |>.symm
      obtain rfl : fn = Tryz.f5 := (Option.some.inj (Tryz.func5.symm.trans hfn)).symm
      exact ⟨by kernel_rfl, fun j t ht => (List.forall_mem_cons.2 ⟨by kernel_rfl, List.forall_mem_cons.2 ⟨by kernel_rfl, fun _ h => nomatch h⟩⟩ : ∀ t ∈ [27, 34], Tryz.prog.wantsStandIn t = false) t (List.mem_of_getElem? (i := j) (by rw [Tryz.params5] at ht; simpa using ht))⟩)
    (by kernel_rfl)
end Go.Proofs.YtgjgcjhmaibblaaGreatDoor
