/- What the listed variables hold when a law of this seat begins. No condition. -/
import Derived.Test.YtdffpjbjpfolfaaGreatDoorTc
import Derived.Test.YtdffpjbjpfolfaaGreatDoorEf
import Derived.Test.YtdffpjbjpfolfaaGreatDoorRows
import Derived.OpenShut
import Derived.LaidMore
import Derived.LaidLaws
import Derived.LaidHandle
import Derived.Lib.LaidU8
import Derived.Lay
import Derived.Deep.Strs
import Derived.Stop.Joined
namespace Go.Proofs.YtdffpjbjpfolfaaGreatDoor
open Go Go.Eng Go.Eng.S Go.ChangeShapes Go.WideShapes Go.RowKit

abbrev laid1 : List (String × DataW Unit) := [("unicode/utf8.acceptRanges", Rows.laid_unicode_utf8_acceptRanges), ("errors.errorType", Rows.laid_errors_errorType), ("unicode/utf8.first", Rows.laid_unicode_utf8_first)]
theorem own : ownKnob Tryz.prog.godebug = none := by kernel_rfl
theorem gEt : Tryz.prog.globalNamed "errors.errorType" = some 0 := by kernel_rfl
theorem rtT : (Tryz.prog.cutTypes.find? (·.1 == "internal/reflectlite.rtype")).map (·.2) = some 122 := by kernel_rfl
theorem nTypes : Tryz.prog.types.size = 173 := by kernel_rfl
theorem oneRow : ((List.range 173).filter fun t => Tryz.prog.rowNamed t [101, 114, 114, 111, 114]) = [27] := by kernel_rfl

abbrev data2 : List (String × DataW Unit) := [("unicode/utf8.acceptRanges", Rows.laid_unicode_utf8_acceptRanges), ("unicode/utf8.first", Rows.laid_unicode_utf8_first)]
/-- A world in which the listed variables are laid. -/
noncomputable def wit (os : Os) : World := (World.doorLaid Tryz.prog 600 os).layVars Tryz.prog data2
theorem wit_os (os : Os) : (wit os).os = os := (World.layVars_os _ _ _).trans rfl
theorem all2 : (data2.filter fun x => (data2.map (·.1)).contains x.1) = data2 := List.filter_eq_self.2 fun x hx => List.contains_iff_mem.2 (List.mem_map.2 ⟨x, hx, rfl⟩)
theorem none2 : (data2.filter fun x => !(data2.map (·.1)).contains x.1) = [] := List.filter_eq_nil_iff.2 fun x hx => by rw [List.contains_iff_mem.2 (List.mem_map.2 ⟨x, hx, rfl⟩)]; simp
theorem fits2 (os : Os) : (World.doorLaid Tryz.prog 600 os).layFits Tryz.prog data2 [] = true := by kernel_rfl
theorem ifaces2 (os : Os) : (World.doorLaid Tryz.prog 600 os).layIfaces Tryz.prog data2 (wit os) = true := by kernel_rfl
theorem met2 (os : Os) (args : Array Value) : laidMet Tryz.prog data2 ((wit os).forCall (fun _ _ => 0) ⟨#[], args, []⟩).memory := by
  have h : laidMet Tryz.prog data2 (wit os) := laidMet_layVars (w0 := World.doorLaid Tryz.prog 600 os) (data2.map (·.1)) [] (by rw [all2]; rfl) (by rw [all2]; exact fits2 os) (by rw [all2]; exact ifaces2 os) (by rw [none2]; exact LaidIn.none)
  exact h.of_heap (by simp [World.memory, World.forCall, Input.heap])
theorem door_met (os : Os) (args : Array Value) : laidMetH Tryz.prog laid1 ((wit os).forCall (fun _ _ => 0) ⟨#[], args, []⟩).memory :=
  laidMetH_of_parts3 (fuel := 8) (met2 os args) (by kernel_rfl) (by kernel_rfl)

theorem laid_cells {W : World} (h : laidMetH Tryz.prog laid1 W) : W.cell? ⟨0, 0, none⟩ = some (.iface 122 (.agg #[.pointer (some ⟨4, 27, none⟩)])) := by
  have h' : laidMet Tryz.prog (laid1.filter fun x => x.2.handleName?.isNone) W ∧ handlesMet Tryz.prog [("errors.errorType", Rows.laid_errors_errorType)] W := h
  obtain ⟨name, u, ty, e1, e2, e3, e4, e5⟩ := h'.2 _ (List.mem_cons_self ..)
  have en : name = [101, 114, 114, 111, 114] := (Option.some.inj e1).symm
  subst en
  obtain rfl := Option.some.inj (rtT.symm.trans e2)
  have hm : ty ∈ (List.range 173).filter fun t => Tryz.prog.rowNamed t [101, 114, 114, 111, 114] := List.mem_filter.2 ⟨List.mem_range.2 (by rw [← nTypes]; exact e3), e4⟩
  rw [oneRow] at hm
  obtain rfl := List.mem_singleton.1 hm
  have hh : typeHandle Tryz.prog 27 = .pointer (some ⟨4, 27, none⟩) := by kernel_rfl
  rw [hh] at e5
  simpa using World.var?_cell gEt e5 0
theorem laid_glob {W : World} (h : laidMetH Tryz.prog laid1 W) : ∀ n cs, T.glob n = some cs → VR (Cx.start W) (.ep cs) (.pointer (some ⟨n, 0, none⟩)) := by
  have h2 := laid_cells h
  intro n cs hn
  unfold T globT at hn
  dsimp only at hn
  split at hn <;> cases hn
  refine start_ep (.cons (ty_VR 27) (.nil _)) ?_ ?_
  · rcases Nat.lt_or_ge 0 W.heap.size with h | h
    · exact h
    · simp [World.cell?, Array.getElem?_eq_none h] at h2
  · intro k v hk
    cases k with
    | zero => simp at hk; subst hk; exact h2
    | succ k => simp at hk
end Go.Proofs.YtdffpjbjpfolfaaGreatDoor
