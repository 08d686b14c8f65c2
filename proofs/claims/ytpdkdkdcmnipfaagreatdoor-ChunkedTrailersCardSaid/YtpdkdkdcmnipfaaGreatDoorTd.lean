/- What the listed variables hold when a law of this seat begins. No condition. -/
import Derived.Test.YtpdkdkdcmnipfaaGreatDoorTc
import Derived.Test.YtpdkdkdcmnipfaaGreatDoorEf
import Derived.Test.YtpdkdkdcmnipfaaGreatDoorRows
import Derived.OpenShut
import Derived.LaidMore
import Derived.LaidLaws
import Derived.LaidHandle
import Derived.Lib.LaidU8
import Derived.Lay
import Derived.Deep.Strs
import Derived.Stop.Joined
namespace Go.Proofs.YtpdkdkdcmnipfaaGreatDoor
open Go Go.Eng Go.Eng.S Go.ChangeShapes Go.WideShapes Go.RowKit

abbrev laid1 : List (String × DataW Unit) := [("math/bits.deBruijn32tab", Rows.laid_math_bits_deBruijn32tab), ("math/bits.deBruijn64tab", Rows.laid_math_bits_deBruijn64tab), ("internal/strconv.uint64pow10", Rows.laid_internal_strconv_uint64pow10), ("unicode/utf8.acceptRanges", Rows.laid_unicode_utf8_acceptRanges), ("errors.errorType", Rows.laid_errors_errorType), ("unicode/utf8.first", Rows.laid_unicode_utf8_first)]
theorem own : ownKnob Tryz.prog.godebug = none := by kernel_rfl
theorem gEt : Tryz.prog.globalNamed "errors.errorType" = some 0 := by kernel_rfl
theorem gDb : Tryz.prog.globalNamed "math/bits.deBruijn64tab" = some 4 := by kernel_rfl
theorem tDb : (Tryz.prog.globals[4]?).map (·.type) = some 163 := by kernel_rfl
theorem rtT : (Tryz.prog.cutTypes.find? (·.1 == "internal/reflectlite.rtype")).map (·.2) = some 103 := by kernel_rfl
theorem nTypes : Tryz.prog.types.size = 199 := by kernel_rfl
theorem oneRow : ((List.range 199).filter fun t => Tryz.prog.rowNamed t [101, 114, 114, 111, 114]) = [28] := by kernel_rfl
theorem cells163 : Tryz.prog.cellsOf 163 = 64 := by kernel_rfl
theorem cells5 : Tryz.prog.cellsOf 5 = 1 := by kernel_rfl
def dbTab : List Int := [0, 1, 56, 2, 57, 49, 28, 3, 61, 58, 42, 50, 38, 29, 17, 4, 62, 47, 59, 36, 45, 43, 51, 22, 53, 39, 33, 30, 24, 18, 12, 5, 63, 55, 48, 27, 60, 41, 37, 16, 46, 35, 44, 21, 52, 32, 23, 11, 54, 26, 40, 15, 34, 20, 31, 10, 25, 14, 19, 9, 13, 8, 7, 6]

abbrev data5 : List (String × DataW Unit) := [("math/bits.deBruijn32tab", Rows.laid_math_bits_deBruijn32tab), ("math/bits.deBruijn64tab", Rows.laid_math_bits_deBruijn64tab), ("internal/strconv.uint64pow10", Rows.laid_internal_strconv_uint64pow10), ("unicode/utf8.acceptRanges", Rows.laid_unicode_utf8_acceptRanges), ("unicode/utf8.first", Rows.laid_unicode_utf8_first)]
/-- A world in which the listed variables are laid. -/
noncomputable def wit (os : Os) : World := (World.doorLaid Tryz.prog 600 os).layVars Tryz.prog data5
theorem wit_os (os : Os) : (wit os).os = os := (World.layVars_os _ _ _).trans rfl
theorem all5 : (data5.filter fun x => (data5.map (·.1)).contains x.1) = data5 := List.filter_eq_self.2 fun x hx => List.contains_iff_mem.2 (List.mem_map.2 ⟨x, hx, rfl⟩)
theorem none5 : (data5.filter fun x => !(data5.map (·.1)).contains x.1) = [] := List.filter_eq_nil_iff.2 fun x hx => by rw [List.contains_iff_mem.2 (List.mem_map.2 ⟨x, hx, rfl⟩)]; simp
theorem fits5 (os : Os) : (World.doorLaid Tryz.prog 600 os).layFits Tryz.prog data5 [] = true := by kernel_rfl
theorem ifaces5 (os : Os) : (World.doorLaid Tryz.prog 600 os).layIfaces Tryz.prog data5 (wit os) = true := by kernel_rfl
theorem met5 (os : Os) (args : Array Value) : laidMet Tryz.prog data5 ((wit os).forCall (fun _ _ => 0) ⟨#[], args, []⟩).memory := by
  have h : laidMet Tryz.prog data5 (wit os) := laidMet_layVars (w0 := World.doorLaid Tryz.prog 600 os) (data5.map (·.1)) [] (by rw [all5]; rfl) (by rw [all5]; exact fits5 os) (by rw [all5]; exact ifaces5 os) (by rw [none5]; exact LaidIn.none)
  exact h.of_heap (by simp [World.memory, World.forCall, Input.heap])
theorem door_met (os : Os) (args : Array Value) : laidMetH Tryz.prog laid1 ((wit os).forCall (fun _ _ => 0) ⟨#[], args, []⟩).memory :=
  laidMetH_of_parts3 (fuel := 8) (met5 os args) (by kernel_rfl) (by kernel_rfl)

theorem laid_cells {W : World} (h : laidMetH Tryz.prog laid1 W) :
    (∀ (k : Nat) (v : Value), (dbTab.map fun z => Value.int .u8 z)[k]? = some v → W.cell? ⟨4, 0 + k, none⟩ = some v) ∧
    W.cell? ⟨0, 0, none⟩ = some (.iface 103 (.agg #[.pointer (some ⟨7, 28, none⟩)])) := by
  have h' : laidMet Tryz.prog (laid1.filter fun x => x.2.handleName?.isNone) W ∧ handlesMet Tryz.prog [("errors.errorType", Rows.laid_errors_errorType)] W := h
  refine ⟨?_, ?_⟩
  · obtain ⟨g, t, cs, fuel, p, hg, hty, hvar, hd⟩ := Go.Lib.laidMet.reads h'.1 (n := "math/bits.deBruijn64tab") (d := Rows.laid_math_bits_deBruijn64tab) (List.mem_cons_of_mem _ (List.mem_cons_self ..))
    obtain rfl := Option.some.inj (gDb.symm.trans hg)
    obtain rfl := Option.some.inj (tDb.symm.trans hty)
    have hcs := Go.Lib.cells_of_tab (k := .u8) (zs := dbTab) Tryz.underlying163 Tryz.underlying5 cells5 cells163 hd
    intro k v hk
    have := World.var?_cell hg hvar k
    rw [Nat.zero_add, this, ← Array.getElem?_toList, hcs]
    exact hk
  · obtain ⟨name, u, ty, e1, e2, e3, e4, e5⟩ := h'.2 _ (List.mem_cons_self ..)
    have en : name = [101, 114, 114, 111, 114] := (Option.some.inj e1).symm
    subst en
    obtain rfl := Option.some.inj (rtT.symm.trans e2)
    have hm : ty ∈ (List.range 199).filter fun t => Tryz.prog.rowNamed t [101, 114, 114, 111, 114] := List.mem_filter.2 ⟨List.mem_range.2 (by rw [← nTypes]; exact e3), e4⟩
    rw [oneRow] at hm
    obtain rfl := List.mem_singleton.1 hm
    have hh : typeHandle Tryz.prog 28 = .pointer (some ⟨7, 28, none⟩) := by kernel_rfl
    rw [hh] at e5
    simpa using World.var?_cell gEt e5 0
theorem tab_VRs (c : Cx) : ∀ zs : List Int, VRs c (zs.map fun z => AV.int .u8 z) (zs.map fun z => Value.int .u8 z)
  | [] => .nil _
  | z :: r => .cons (.int .u8 z) (tab_VRs c r)
theorem laid_glob {W : World} (h : laidMetH Tryz.prog laid1 W) : ∀ n cs, T.glob n = some cs → VR (Cx.start W) (.ep cs) (.pointer (some ⟨n, 0, none⟩)) := by
  obtain ⟨h1, h2⟩ := laid_cells h
  intro n cs hn
  unfold T globT at hn
  dsimp only at hn
  split at hn <;> cases hn
  · refine start_ep (.cons (ty_VR 28) (.nil _)) ?_ ?_
    · rcases Nat.lt_or_ge 0 W.heap.size with h | h
      · exact h
      · simp [World.cell?, Array.getElem?_eq_none h] at h2
    · intro k v hk
      cases k with
      | zero => simp at hk; subst hk; exact h2
      | succ k => simp at hk
  · refine start_ep (tab_VRs _ dbTab) ?_ h1
    have := h1 0 _ rfl
    rcases Nat.lt_or_ge 4 W.heap.size with h | h
    · exact h
    · simp [World.cell?, Array.getElem?_eq_none h] at this
end Go.Proofs.YtpdkdkdcmnipfaaGreatDoor
