/- The card of ChunkedLimits out of its abstract answer. The condition: the abstract answer for whatever is read. -/
import Derived.Test.YtpdkdkdcmnipfaaGreatDoorTd
import Derived.Test.YtpdkdkdcmnipfaaGreatDoorEg
import Derived.Test.YtpdkdkdcmnipfaaGreatDoorTie
import Derived.Test.YtpdkdkdcmnipfaaGreatDoorCards
namespace Go.Proofs.YtpdkdkdcmnipfaaGreatDoor
open Go Go.Eng Go.Eng.S Go.ChangeShapes Go.WideShapes Go.ChangeAt Go.RowKit Go.ChangeMaps

theorem chunkedLimits_laidOut : laidOutB Tryz.prog = true := by kernel_rfl
set_option maxRecDepth 100000 in
theorem chunkedLimits_lifted (hlaw : ∀ xs, Shs Tryz.prog [22, 5] xs → C T 6 xs [] = some (.bool true, [])) (os : Os) (started : os.Started) (H : Type) (enc : TypeId × Value → H) :
    ReturnsInHanded {} Tryz.checked os 6 .any (fun w args => (Rows.chunkedLimitsSpec.pre enc Tryz.prog Tryz.f6 [] false w args ∧ laidMetH Tryz.prog laid1 w) ∧ sizedMet enc Tryz.prog Tryz.f6 (OpenSpec.ofChange Rows.chunkedLimitsSpec) false w args)
      (Rows.chunkedLimitsSpec.post enc Tryz.prog Tryz.f6 false true false false) := by
  refine returnsInHanded_of_change_and (C := Tryz.checked) (X := fun w _ => laidMetH Tryz.prog laid1 w) (fun _ _ _ hh h => h.of_heap hh) own started (by kernel_rfl) Tryz.func6
    (ChangeSpec.witness_shaped (enc := enc) (C := Tryz.checked) (os := os) (X := fun w _ => laidMetH Tryz.prog laid1 w) false (wit os) #[.slice none 0 0, .int .u8 0] 8 (wit_os _) (World.shaped_of_RefB (by kernel_rfl) (by kernel_rfl)) (by kernel_rfl) (by kernel_rfl) (by kernel_rfl) (door_met os _)) ?_
  intro W base args ds gs before hval hW _ _ hL _
  exact law_calls (fn := Tryz.f6) tab_ok2 fn_ok chunkedLimits_laidOut Tryz.call6 (by kernel_rfl) (by kernel_rfl) Tryz.underlying4 rfl
    (fun ds h => by
      match ds, h with
      | [d0, d1], _ => rfl) (by rw [Tryz.params6]; exact hlaw) hval hW (laid_glob hL)

theorem chunkedLimits_of (hlaw : ∀ xs, Shs Tryz.prog [22, 5] xs → C T 6 xs [] = some (.bool true, [])) : Rows.ChunkedLimitsSaid :=
  OpenClaim.holds_of_wide 6 Tryz.f6 rfl rfl rfl rfl rfl rfl rfl ⟨rfl, rfl, rfl, rfl, rfl⟩ rfl rfl rfl rfl rfl (by kernel_rfl) Tryz.func6 (by kernel_rfl)
    (of_decide_eq_true (by kernel_rfl)) (by unfold Func.isWrapper; first | (rw [if_pos (by decide +kernel)]; kernel_rfl) | (rw [if_neg (by decide +kernel)]; exact ⟨rfl, rfl⟩))
    (fun os started H enc _ => chunkedLimits_lifted hlaw os started H enc)

theorem chunkedLimits_card_of (hlaw : ∀ xs, Shs Tryz.prog [22, 5] xs → C T 6 xs [] = some (.bool true, [])) : Rows.ChunkedLimitsCardSaid :=
  Claim7.holds_tied_plain_at .later [] [.data, .data, .data, .data, .handle, .pinned] true (true, "9ba4f254dd3ce4e3bbb90537a525ba3a89ec3ee9610a10436bddb7e80221eaba") true
    (chunkedLimits_of hlaw) (fun _ h => by cases h) (by kernel_rfl) (fun _ h => by cases h) chunkedLimits_row_tie rfl ⟨rfl, rfl⟩ (by kernel_rfl) rfl
    (fun f fn hf hfn => by
      obtain rfl : f = 6 := Option.some.inj ((show Tryz.prog.funcNamed "doorkeeper/doorkeeperlaw14.ChunkedLimits" = some 6 by kernel_rfl).symm.trans hf) |>.symm
      obtain rfl : fn = Tryz.f6 := (Option.some.inj (Tryz.func6.symm.trans hfn)).symm
      exact ⟨by kernel_rfl, fun j t ht => (List.forall_mem_cons.2 ⟨by kernel_rfl, List.forall_mem_cons.2 ⟨by kernel_rfl, fun _ h => nomatch h⟩⟩ : ∀ t ∈ [22, 5], Tryz.prog.wantsStandIn t = false) t (List.mem_of_getElem? (i := j) (by rw [Tryz.params6] at ht; simpa using ht))⟩)
    (by kernel_rfl)
end Go.Proofs.YtpdkdkdcmnipfaaGreatDoor
