/- The card of SerialCuts out of its abstract answer. The condition: the abstract answer for whatever is read. -/
import Derived.Test.YtgjgcjhmaibblaaGreatDoorTd
import Derived.Test.YtgjgcjhmaibblaaGreatDoorEg
import Derived.Test.YtgjgcjhmaibblaaGreatDoorTie
import Derived.Test.YtgjgcjhmaibblaaGreatDoorCards
namespace Go.Proofs.YtgjgcjhmaibblaaGreatDoor
open Go Go.Eng Go.Eng.S Go.ChangeShapes Go.WideShapes Go.ChangeAt Go.RowKit Go.ChangeMaps

theorem serialCuts_laidOut : laidOutB Tryz.prog = true := by kernel_rfl
set_option maxRecDepth 100000 in
theorem serialCuts_lifted (hlaw : ∀ m xs, Shs Tryz.prog [29, 5] xs → @C (@T (sitB m)) 6 xs [] = some (.bool true, [])) (os : Os) (started : os.Started) (H : Type) (enc : TypeId × Value → H) :
    ReturnsInHanded {} Tryz.checked os 6 .any (fun w args => (Rows.serialCutsSpec.pre enc Tryz.prog Tryz.f6 [] false w args ∧ laidMetH Tryz.prog laid1 w) ∧ sizedMet enc Tryz.prog Tryz.f6 (OpenSpec.ofChange Rows.serialCutsSpec) false w args)
      (Rows.serialCutsSpec.post enc Tryz.prog Tryz.f6 false true false false) := by
  refine handed_shaped (C := Tryz.checked) (X := fun w _ => laidMetH Tryz.prog laid1 w) (fun _ _ _ hh h => h.of_heap hh) own started (by kernel_rfl) Tryz.func6
    (ChangeSpec.witness_shaped (enc := enc) (C := Tryz.checked) (os := os) (X := fun w _ => laidMetH Tryz.prog laid1 w) false (wit os) #[.agg #[.int .i64 0, .slice none 0 0, .slice none 0 0], .int .u8 0] 8 (wit_os _) (World.shaped_of_RefB (by kernel_rfl) (by kernel_rfl)) (by kernel_rfl) (by kernel_rfl) (by kernel_rfl) (door_met os _)) ?_
  intro W base args ds gs before hval hW hsh hL
  obtain ⟨m, hm⟩ := max_of hsh
  exact law_calls (T := @T (sitB m)) (fn := Tryz.f6) (@tab_ok2 (sitB m)) (fn_okB m) serialCuts_laidOut Tryz.call6 (by kernel_rfl) (by kernel_rfl) Tryz.underlying4 rfl
    (fun ds h => by
      match ds, h with
      | [d0, d1], _ => rfl) (by rw [Tryz.params6]; exact hlaw m) hval hW (laid_glob m hm hL)

theorem serialCuts_of (hlaw : ∀ m xs, Shs Tryz.prog [29, 5] xs → @C (@T (sitB m)) 6 xs [] = some (.bool true, [])) : Rows.SerialCutsSaid :=
  OpenClaim.holds_of_wide 6 Tryz.f6 rfl rfl rfl rfl rfl rfl rfl ⟨rfl, rfl, rfl, rfl, rfl⟩ rfl rfl rfl rfl rfl (by kernel_rfl) Tryz.func6 (by kernel_rfl)
    (of_decide_eq_true (by kernel_rfl)) (by unfold Func.isWrapper; first | (rw [if_pos (by decide +kernel)]; kernel_rfl) | (rw [if_neg (by decide +kernel)]; exact ⟨rfl, rfl⟩))
    (fun os started H enc _ => serialCuts_lifted hlaw os started H enc)

theorem serialCuts_card_of (hlaw : ∀ m xs, Shs Tryz.prog [29, 5] xs → @C (@T (sitB m)) 6 xs [] = some (.bool true, [])) : Rows.SerialCutsCardSaid :=
  Claim7.holds_tied_plain_at .later [] [.data, .data, .data] true (true, "5df545c6631969087cc2c7044331923cfce5f8fac06e33f82906e8e1dc0a4c03") true
    (serialCuts_of hlaw) (fun _ h => by cases h) (by kernel_rfl) (fun _ h => by cases h) serialCuts_row_tie rfl ⟨rfl, rfl⟩ (by kernel_rfl) rfl
    (fun f fn hf hfn => by
      obtain rfl : f = 6 := Option.some.inj ((show Tryz.prog.funcNamed "doorkeeper/doorkeeperlaw26.SerialCuts" = some 6 by kernel_rfl).symm.trans hf) |>.symm
      obtain rfl : fn = Tryz.f6 := (Option.some.inj (Tryz.func6.symm.trans hfn)).symm
      exact ⟨by kernel_rfl, fun j t ht => (List.forall_mem_cons.2 ⟨by kernel_rfl, List.forall_mem_cons.2 ⟨by kernel_rfl, fun _ h => nomatch h⟩⟩ : ∀ t ∈ [29, 5], Tryz.prog.wantsStandIn t = false) t (List.mem_of_getElem? (i := j) (by rw [Tryz.params6] at ht; simpa using ht))⟩)
    (by kernel_rfl)
end Go.Proofs.YtgjgcjhmaibblaaGreatDoor
