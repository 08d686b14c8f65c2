/- The card of ChunkedTrailers out of its abstract answer. The condition: the abstract answer for whatever is read. -/
import Derived.Test.YtpdkdkdcmnipfaaGreatDoorTd
import Derived.Test.YtpdkdkdcmnipfaaGreatDoorEg
import Derived.Test.YtpdkdkdcmnipfaaGreatDoorTie
import Derived.Test.YtpdkdkdcmnipfaaGreatDoorCards
namespace Go.Proofs.YtpdkdkdcmnipfaaGreatDoor
open Go Go.Eng Go.Eng.S Go.ChangeShapes Go.WideShapes Go.ChangeAt Go.RowKit Go.ChangeMaps

theorem chunkedTrailers_laidOut : laidOutB Tryz.prog = true := by kernel_rfl
set_option maxRecDepth 100000 in
theorem chunkedTrailers_lifted (hlaw : ∀ xs, Shs Tryz.prog [22, 9, 9] xs → C T 7 xs [] = some (.bool true, [])) (os : Os) (started : os.Started) (H : Type) (enc : TypeId × Value → H) :
    ReturnsInHanded {} Tryz.checked os 7 .any (fun w args => (Rows.chunkedTrailersSpec.pre enc Tryz.prog Tryz.f7 [] false w args ∧ laidMetH Tryz.prog laid1 w) ∧ sizedMet enc Tryz.prog Tryz.f7 (OpenSpec.ofChange Rows.chunkedTrailersSpec) false w args)
      (Rows.chunkedTrailersSpec.post enc Tryz.prog Tryz.f7 false true false false) := by
  refine returnsInHanded_of_change_and (C := Tryz.checked) (X := fun w _ => laidMetH Tryz.prog laid1 w) (fun _ _ _ hh h => h.of_heap hh) own started (by kernel_rfl) Tryz.func7
    (ChangeSpec.witness_shaped (enc := enc) (C := Tryz.checked) (os := os) (X := fun w _ => laidMetH Tryz.prog laid1 w) false (wit os) #[.slice none 0 0, .string ⟨#[]⟩, .string ⟨#[]⟩] 8 (wit_os _) (World.shaped_of_RefB (by kernel_rfl) (by kernel_rfl)) (by kernel_rfl) (by kernel_rfl) (by kernel_rfl) (door_met os _)) ?_
  intro W base args ds gs before hval hW _ _ hL _
  exact law_calls (fn := Tryz.f7) tab_ok2 fn_ok chunkedTrailers_laidOut Tryz.call7 (by kernel_rfl) (by kernel_rfl) Tryz.underlying4 rfl
    (fun ds h => by
      match ds, h with
      | [d0, d1, d2], _ => rfl) (by rw [Tryz.params7]; exact hlaw) hval hW (laid_glob hL)

theorem chunkedTrailers_of (hlaw : ∀ xs, Shs Tryz.prog [22, 9, 9] xs → C T 7 xs [] = some (.bool true, [])) : Rows.ChunkedTrailersSaid :=
  OpenClaim.holds_of_wide 7 Tryz.f7 rfl rfl rfl rfl rfl rfl rfl ⟨rfl, rfl, rfl, rfl, rfl⟩ rfl rfl rfl rfl rfl (by kernel_rfl) Tryz.func7 (by kernel_rfl)
    (of_decide_eq_true (by kernel_rfl)) (by unfold Func.isWrapper; first | (rw [if_pos (by decide +kernel)]; kernel_rfl) | (rw [if_neg (by decide +kernel)]; exact ⟨rfl, rfl⟩))
    (fun os started H enc _ => chunkedTrailers_lifted hlaw os started H enc)

theorem chunkedTrailers_card_of (hlaw : ∀ xs, Shs Tryz.prog [22, 9, 9] xs → C T 7 xs [] = some (.bool true, [])) : Rows.ChunkedTrailersCardSaid :=
  Claim7.holds_tied_plain_at .later [] [.data, .data, .data, .data, .handle, .pinned] true (true, "9ba4f254dd3ce4e3bbb90537a525ba3a89ec3ee9610a10436bddb7e80221eaba") true
    (chunkedTrailers_of hlaw) (fun _ h => by cases h) (by kernel_rfl) (fun _ h => by cases h) chunkedTrailers_row_tie rfl ⟨rfl, rfl⟩ (by kernel_rfl) rfl
    (fun f fn hf hfn => by
      obtain rfl : f = 7 := Option.some.inj ((show Tryz.prog.funcNamed "doorkeeper/doorkeeperlaw14.ChunkedTrailers" = some 7 by kernel_rfl).symm.trans hf) |>.symm
      obtain rfl : fn = Tryz.f7 := (Option.some.inj (Tryz.func7.symm.trans hfn)).symm
      exact ⟨by kernel_rfl, fun j t ht => (List.forall_mem_cons.2 ⟨by kernel_rfl, List.forall_mem_cons.2 ⟨by kernel_rfl, List.forall_mem_cons.2 ⟨by kernel_rfl, fun _ h => nomatch h⟩⟩⟩ : ∀ t ∈ [22, 9, 9], Tryz.prog.wantsStandIn t = false) t (List.mem_of_getElem? (i := j) (by rw [Tryz.params7] at ht; simpa using ht))⟩)
    (by kernel_rfl)
end Go.Proofs.YtpdkdkdcmnipfaaGreatDoor
