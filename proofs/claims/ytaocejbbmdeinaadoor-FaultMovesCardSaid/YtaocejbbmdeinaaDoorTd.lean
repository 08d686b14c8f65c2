/- What the listed variables hold when a law of this seat begins. No condition. -/
import Derived.Test.YtaocejbbmdeinaaDoorTc
import Derived.Test.YtaocejbbmdeinaaDoorEf
import Derived.Test.YtaocejbbmdeinaaDoorRows
import Derived.OpenShut
import Derived.LaidMore
import Derived.LaidLaws
import Derived.LaidHandle
import Derived.Lib.LaidU8
import Derived.Lay
import Derived.Deep.Strs
import Derived.Stop.Joined
namespace Go.Proofs.YtaocejbbmdeinaaDoor
open Go Go.Eng Go.Eng.S Go.ChangeShapes Go.WideShapes Go.RowKit

abbrev laid1 : List (String × DataW Unit) := [("math/bits.deBruijn32tab", Rows.laid_math_bits_deBruijn32tab), ("math/bits.deBruijn64tab", Rows.laid_math_bits_deBruijn64tab), ("internal/strconv.uint64pow10", Rows.laid_internal_strconv_uint64pow10), ("errors.errorType", Rows.laid_errors_errorType)]
theorem own : ownKnob Tryd.prog.godebug = none := by kernel_rfl
theorem gEt : Tryd.prog.globalNamed "errors.errorType" = some 0 := by kernel_rfl
theorem gPw : Tryd.prog.globalNamed "internal/strconv.uint64pow10" = some 1 := by kernel_rfl
theorem tPw : (Tryd.prog.globals[1]?).map (·.type) = some 103 := by kernel_rfl
theorem rtT : (Tryd.prog.cutTypes.find? (·.1 == "internal/reflectlite.rtype")).map (·.2) = some 80 := by kernel_rfl
theorem nTypes : Tryd.prog.types.size = 139 := by kernel_rfl
theorem oneRow : ((List.range 139).filter fun t => Tryd.prog.rowNamed t [101, 114, 114, 111, 114]) = [28] := by kernel_rfl
theorem cells103 : Tryd.prog.cellsOf 103 = 20 := by kernel_rfl
theorem cells95 : Tryd.prog.cellsOf 95 = 1 := by kernel_rfl
def pwTab : List Int := [1, 10, 100, 1000, 10000, 100000, 1000000, 10000000, 100000000, 1000000000, 10000000000, 100000000000, 1000000000000, 10000000000000, 100000000000000, 1000000000000000, 10000000000000000, 100000000000000000, 1000000000000000000, 10000000000000000000]

abbrev data3 : List (String × DataW Unit) := [("math/bits.deBruijn32tab", Rows.laid_math_bits_deBruijn32tab), ("math/bits.deBruijn64tab", Rows.laid_math_bits_deBruijn64tab), ("internal/strconv.uint64pow10", Rows.laid_internal_strconv_uint64pow10)]
/-- A world in which the listed variables are laid. -/
noncomputable def wit (os : Os) : World := (World.doorLaid Tryd.prog 600 os).layVars Tryd.prog data3
theorem wit_os (os : Os) : (wit os).os = os := (World.layVars_os _ _ _).trans rfl
theorem all3 : (data3.filter fun x => (data3.map (·.1)).contains x.1) = data3 := List.filter_eq_self.2 fun x hx => List.contains_iff_mem.2 (List.mem_map.2 ⟨x, hx, rfl⟩)
theorem none3 : (data3.filter fun x => !(data3.map (·.1)).contains x.1) = [] := List.filter_eq_nil_iff.2 fun x hx => by rw [List.contains_iff_mem.2 (List.mem_map.2 ⟨x, hx, rfl⟩)]; simp
theorem fits3 (os : Os) : (World.doorLaid Tryd.prog 600 os).layFits Tryd.prog data3 [] = true := by kernel_rfl
theorem ifaces3 (os : Os) : (World.doorLaid Tryd.prog 600 os).layIfaces Tryd.prog data3 (wit os) = true := by kernel_rfl
theorem met3 (os : Os) (args : Array Value) : laidMet Tryd.prog data3 ((wit os).forCall (fun _ _ => 0) ⟨#[], args, []⟩).memory := by
  have h : laidMet Tryd.prog data3 (wit os) := laidMet_layVars (w0 := World.doorLaid Tryd.prog 600 os) (data3.map (·.1)) [] (by rw [all3]; rfl) (by rw [all3]; exact fits3 os) (by rw [all3]; exact ifaces3 os) (by rw [none3]; exact LaidIn.none)
  exact h.of_heap (by simp [World.memory, World.forCall, Input.heap])
theorem door_met (os : Os) (args : Array Value) : laidMetH Tryd.prog laid1 ((wit os).forCall (fun _ _ => 0) ⟨#[], args, []⟩).memory :=
  laidMetH_of_parts3 (fuel := 8) (met3 os args) (by kernel_rfl) (by kernel_rfl)

theorem laid_cells {W : World} (h : laidMetH Tryd.prog laid1 W) :
    (∀ (k : Nat) (v : Value), (pwTab.map fun z => Value.int .u64 z)[k]? = some v → W.cell? ⟨1, 0 + k, none⟩ = some v) ∧
    W.cell? ⟨0, 0, none⟩ = some (.iface 80 (.agg #[.pointer (some ⟨4, 28, none⟩)])) := by
  have h' : laidMet Tryd.prog (laid1.filter fun x => x.2.handleName?.isNone) W ∧ handlesMet Tryd.prog [("errors.errorType", Rows.laid_errors_errorType)] W := h
  refine ⟨?_, ?_⟩
  · obtain ⟨g, t, cs, fuel, p, hg, hty, hvar, hd⟩ := Go.Lib.laidMet.reads h'.1 (n := "internal/strconv.uint64pow10") (d := Rows.laid_internal_strconv_uint64pow10) (List.mem_cons_of_mem _ (List.mem_cons_of_mem _ (List.mem_cons_self ..)))
    obtain rfl := Option.some.inj (gPw.symm.trans hg)
    obtain rfl := Option.some.inj (tPw.symm.trans hty)
    have hcs := Go.Lib.cells_of_tab (k := .u64) (zs := pwTab) Tryd.underlying103 Tryd.underlying95 cells95 cells103 hd
    intro k v hk
    have := World.var?_cell hg hvar k
    rw [Nat.zero_add, this, ← Array.getElem?_toList, hcs]
    exact hk
  · obtain ⟨name, u, ty, e1, e2, e3, e4, e5⟩ := h'.2 _ (List.mem_cons_self ..)
    have en : name = [101, 114, 114, 111, 114] := (Option.some.inj e1).symm
    subst en
    obtain rfl := Option.some.inj (rtT.symm.trans e2)
    have hm : ty ∈ (List.range 139).filter fun t => Tryd.prog.rowNamed t [101, 114, 114, 111, 114] := List.mem_filter.2 ⟨List.mem_range.2 (by rw [← nTypes]; exact e3), e4⟩
    rw [oneRow] at hm
    obtain rfl := List.mem_singleton.1 hm
    have hh : typeHandle Tryd.prog 28 = .pointer (some ⟨4, 28, none⟩) := by kernel_rfl
    rw [hh] at e5
    simpa using World.var?_cell gEt e5 0
theorem tab_VRs (c : Cx) : ∀ zs : List Int, VRs c (zs.map fun z => AV.int .u64 z) (zs.map fun z => Value.int .u64 z)
  | [] => .nil _
  | z :: r => .cons (.int .u64 z) (tab_VRs c r)
theorem laid_glob {W : World} (h : laidMetH Tryd.prog laid1 W) : ∀ n cs, T.glob n = some cs → VR (Cx.start W) (.ep cs) (.pointer (some ⟨n, 0, none⟩)) := by
  obtain ⟨h1, h2⟩ := laid_cells h
  intro n cs hn
  unfold T globT at hn
  dsimp only at hn
  split at hn <;> cases hn
  · refine start_ep (.cons (ty_VR 28) (.nil _)) ?_ ?_
    · rcases Nat.lt_or_ge 0 W.heap.size with h | h
      · exact h
      · simp [World.cell?, Array.getElem?_eq_none h] at h2
    · intro k v hk
      cases k with
      | zero => simp at hk; subst hk; exact h2
      | succ k => simp at hk
  · refine start_ep (tab_VRs _ pwTab) ?_ h1
    have := h1 0 _ rfl
    rcases Nat.lt_or_ge 1 W.heap.size with h | h
    · exact h
    · simp [World.cell?, Array.getElem?_eq_none h] at this
end Go.Proofs.YtaocejbbmdeinaaDoor
