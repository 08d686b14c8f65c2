/- The row and the card of HostParses out of its abstract answer. The condition: the abstract answer for every string. -/
import Derived.Test.YtfpknphncaopkaaDoorTd
import Derived.Test.YtfpknphncaopkaaDoorTie
import Derived.Test.YtfpknphncaopkaaDoorCards
import Derived.ChangeMaps5
namespace Go.Proofs.YtfpknphncaopkaaDoor
open Go Go.Eng Go.Eng.S Go.ChangeShapes Go.WideShapes Go.ChangeAt Go.RowKit Go.ChangeMaps

set_option maxRecDepth 100000 in
theorem hostParses_lifted (hlaw : ∀ s : List UInt8, C T 3 [.str s] [] = some (.bool true, [])) (os : Os) (started : os.Started) (H : Type) (enc : TypeId × Value → H) :
    ReturnsInHanded {} Tryd.checked os 3 .any (fun w args => (Rows.hostParsesSpec.pre enc Tryd.prog Tryd.f3 [] false w args ∧ laidMetH Tryd.prog laid1 w) ∧ sizedMet enc Tryd.prog Tryd.f3 (OpenSpec.ofChange Rows.hostParsesSpec) false w args)
      (Rows.hostParsesSpec.post enc Tryd.prog Tryd.f3 false true false false) := by
  refine returnsInHanded_of_change_and (C := Tryd.checked) (X := fun w _ => laidMetH Tryd.prog laid1 w) (fun _ _ _ hh h => h.of_heap hh) own started (by kernel_rfl) Tryd.func3
    (ChangeSpec.witness_shaped (enc := enc) (C := Tryd.checked) (os := os) (X := fun w _ => laidMetH Tryd.prog laid1 w) false (World.doorLaid Tryd.prog 600 os) #[.string ⟨#[]⟩] 8 rfl (World.shaped_of_RefB (by kernel_rfl) (by kernel_rfl)) (by kernel_rfl) (by kernel_rfl) (by kernel_rfl) (door_met os _)) ?_
  intro W base args ds gs before hval0 hW _ _ hL _
  have hval : ∀ (j : Nat) t v, Tryd.f3.params[j]? = some t → args[j]? = some v → Value.okWide Tryd.prog W .any base t v := hval0
  have hW' := hW
  obtain ⟨p, q, hA0, hV, rfl, hfz, hnd⟩ := hW
  have hA : DataW.TrodAll enc Tryd.prog W 0 (fun _ => true) true Tryd.f3.params.toList args.toList ds p := hA0
  rw [Tryd.params3] at hA hval
  obtain ⟨v0, d0, rfl, rfl, h0⟩ := trodAll_one hA
  obtain ⟨rfl, rfl⟩ := trodVars_none hV
  obtain ⟨s, rfl, rfl, rfl, hs⟩ := open_string Tryd.underlying9 (hval 0 9 v0 rfl rfl) h0
  have hrun := run_law tab_ok2 fn_ok Tryd.call3 (args := [.str s.data.toList]) (args' := #[.string s]) (W := W) (laid_glob hL) (.cons (by simpa using VR.str (c := Cx.start W) s.data.toList) (.nil _)) (hlaw s.data.toList)
  refine hrun.mono ?_
  rintro e W' ⟨y, c', rfl, rfl, hE, hy⟩
  cases hy
  refine ⟨_, rfl, _, _, _, [], [], [], hW', ?_, ?_, ?_, start_kept hE _, fun h => by cases h⟩
  · exact trodAll_mk1 (shut_bool Tryd.underlying4 true)
  · exact trodAll_mk1 (shut_string Tryd.underlying9 hs)
  · rfl

theorem hostParses_of (hlaw : ∀ s : List UInt8, C T 3 [.str s] [] = some (.bool true, [])) : Rows.HostParsesSaid :=
  OpenClaim.holds_of_wide 3 Tryd.f3 rfl rfl rfl rfl rfl rfl rfl ⟨rfl, rfl, rfl, rfl, rfl⟩ rfl rfl rfl rfl rfl (by kernel_rfl) Tryd.func3 (by kernel_rfl)
    (of_decide_eq_true (by kernel_rfl)) (by unfold Func.isWrapper; first | (rw [if_pos (by decide +kernel)]; kernel_rfl) | (rw [if_neg (by decide +kernel)]; exact ⟨rfl, rfl⟩))
    (fun os started H enc _ => hostParses_lifted hlaw os started H enc)

theorem hostParses_card_of (hlaw : ∀ s : List UInt8, C T 3 [.str s] [] = some (.bool true, [])) : Rows.HostParsesCardSaid :=
  Claim7.holds_tied_plain_at .later [] [.handle, .funcs] true (true, "06e661751ff5bff5e6d3ede9f2ff952564086d65b452475e4d7fdc5e31361f18") true
    (hostParses_of hlaw) (fun _ h => by cases h) (by kernel_rfl) (fun _ h => by cases h) hostParses_row_tie rfl ⟨rfl, rfl⟩ (by kernel_rfl) rfl
    (fun f fn hf hfn => by
      obtain rfl : f = 3 := Option.some.inj ((show Tryd.prog.funcNamed "doorkeeper/doorkeeperlaw18.HostParses" = some 3 by kernel_rfl).symm.trans hf) |>.symm
      obtain rfl : fn = Tryd.f3 := (Option.some.inj (Tryd.func3.symm.trans hfn)).symm
      exact ⟨by kernel_rfl, fun j t ht => by
        rw [Tryd.params3] at ht
        have h3 : t = 9 := by
          rcases j with _ | j
          · simpa using ht.symm
          · simp at ht
        subst h3
        exact (show Tryd.prog.wantsStandIn 9 = false by kernel_rfl)⟩)
    (by kernel_rfl)
end Go.Proofs.YtfpknphncaopkaaDoor
