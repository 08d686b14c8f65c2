/- What the listed variables hold when a law of this seat begins. No condition. -/
import Derived.Test.YtgjgcjhmaibblaaGreatDoorTc
import Derived.Test.YtgjgcjhmaibblaaGreatDoorM5
import Derived.Test.YtgjgcjhmaibblaaGreatDoorEf
import Derived.Test.YtgjgcjhmaibblaaGreatDoorRows
import Derived.OpenShut
import Derived.LaidMore
import Derived.LaidLaws
import Derived.LaidHandle
import Derived.Lib.LaidU8
import Derived.Lay
import Derived.Deep.Strs
import Derived.Stop.Joined
import Derived.Shelf.Vars
import Derived.Handed
namespace Go.Proofs.YtgjgcjhmaibblaaGreatDoor
open Go Go.Eng Go.Eng.S Go.ChangeShapes Go.WideShapes Go.RowKit

abbrev laid1 : List (String × DataW Unit) := [("math/bits.deBruijn32tab", Rows.laid_math_bits_deBruijn32tab), ("math/bits.deBruijn64tab", Rows.laid_math_bits_deBruijn64tab), ("internal/strconv.uint64pow10", Rows.laid_internal_strconv_uint64pow10)]
theorem own : ownKnob Tryz.prog.godebug = none := by kernel_rfl
theorem gPw : Tryz.prog.globalNamed "internal/strconv.uint64pow10" = some 1 := by kernel_rfl
theorem tPw : (Tryz.prog.globals[1]?).map (·.type) = some 139 := by kernel_rfl
theorem cells139 : Tryz.prog.cellsOf 139 = 20 := by kernel_rfl
theorem cells133 : Tryz.prog.cellsOf 133 = 1 := by kernel_rfl
def pwTab : List Int := [1, 10, 100, 1000, 10000, 100000, 1000000, 10000000, 100000000, 1000000000, 10000000000, 100000000000, 1000000000000, 10000000000000, 100000000000000, 1000000000000000, 10000000000000000, 100000000000000000, 1000000000000000000, 10000000000000000000]

/-- A world in which the listed variables are laid. -/
noncomputable def wit (os : Os) : World := (World.doorLaid Tryz.prog 600 os).layVars Tryz.prog laid1
theorem wit_os (os : Os) : (wit os).os = os := (World.layVars_os _ _ _).trans rfl
theorem all3 : (laid1.filter fun x => (laid1.map (·.1)).contains x.1) = laid1 := List.filter_eq_self.2 fun x hx => List.contains_iff_mem.2 (List.mem_map.2 ⟨x, hx, rfl⟩)
theorem none3 : (laid1.filter fun x => !(laid1.map (·.1)).contains x.1) = [] := List.filter_eq_nil_iff.2 fun x hx => by rw [List.contains_iff_mem.2 (List.mem_map.2 ⟨x, hx, rfl⟩)]; simp
theorem fits3 (os : Os) : (World.doorLaid Tryz.prog 600 os).layFits Tryz.prog laid1 [] = true := by kernel_rfl
theorem ifaces3 (os : Os) : (World.doorLaid Tryz.prog 600 os).layIfaces Tryz.prog laid1 (wit os) = true := by kernel_rfl
theorem met3 (os : Os) (args : Array Value) : laidMet Tryz.prog laid1 ((wit os).forCall (fun _ _ => 0) ⟨#[], args, []⟩).memory := by
  have h : laidMet Tryz.prog laid1 (wit os) := laidMet_layVars (w0 := World.doorLaid Tryz.prog 600 os) (laid1.map (·.1)) [] (by rw [all3]; rfl) (by rw [all3]; exact fits3 os) (by rw [all3]; exact ifaces3 os) (by rw [none3]; exact LaidIn.none)
  exact h.of_heap (by simp [World.memory, World.forCall, Input.heap])
theorem door_met (os : Os) (args : Array Value) : laidMetH Tryz.prog laid1 ((wit os).forCall (fun _ _ => 0) ⟨#[], args, []⟩).memory :=
  laidMetH_of_parts3 (fuel := 8) (met3 os args) (by kernel_rfl) (by kernel_rfl)

theorem laid_cells {W : World} (h : laidMetH Tryz.prog laid1 W) :
    ∀ (k : Nat) (v : Value), (pwTab.map fun z => Value.int .u64 z)[k]? = some v → W.cell? ⟨1, 0 + k, none⟩ = some v := by
  have h' : laidMet Tryz.prog laid1 W := h
  obtain ⟨g, t, cs, fuel, p, hg, hty, hvar, hd⟩ := Go.Lib.laidMet.reads h' (n := "internal/strconv.uint64pow10") (d := Rows.laid_internal_strconv_uint64pow10) (List.mem_cons_of_mem _ (List.mem_cons_of_mem _ (List.mem_cons_self ..)))
  obtain rfl := Option.some.inj (gPw.symm.trans hg)
  obtain rfl := Option.some.inj (tPw.symm.trans hty)
  have hcs := Go.Lib.cells_of_tab (k := .u64) (zs := pwTab) Tryz.underlying139 Tryz.underlying133 cells133 cells139 hd
  intro k v hk
  have := World.var?_cell hg hvar k
  rw [Nat.zero_add, this, ← Array.getElem?_toList, hcs]
  exact hk
theorem tab_VRs (c : Cx) : ∀ zs : List Int, VRs c (zs.map fun z => AV.int .u64 z) (zs.map fun z => Value.int .u64 z)
  | [] => .nil _
  | z :: r => .cons (.int .u64 z) (tab_VRs c r)
/-- The variable that is not laid holds some number. -/
theorem max_of {W : World} (h : W.ShapedOpen Tryz.prog) : ∃ m, W.cell? ⟨0, 0, none⟩ = some (.int .i64 m) :=
  cell_of_shapedOpen_int (zero := #[.int .i64 0]) (t := 3) h (of_decide_eq_true (by kernel_rfl)) (by kernel_rfl) rfl (by kernel_rfl) (by kernel_rfl) Tryz.underlying3
theorem laid_glob (m : Int) {W : World} (hm : W.cell? ⟨0, 0, none⟩ = some (.int .i64 m)) (h : laidMetH Tryz.prog laid1 W) : ∀ n cs, (@T (sitB m)).glob n = some cs → VR (Cx.start W) (.ep cs) (.pointer (some ⟨n, 0, none⟩)) := by
  have h1 := laid_cells h
  intro n cs hn
  unfold T globT at hn
  dsimp only at hn
  split at hn <;> cases hn
  · refine start_ep (.cons (.int .i64 m) (.nil _)) ?_ ?_
    · rcases Nat.lt_or_ge 0 W.heap.size with h | h
      · exact h
      · simp [World.cell?, Array.getElem?_eq_none h] at hm
    · intro k v hk
      cases k with
      | zero => simp at hk; subst hk; exact hm
      | succ k => simp at hk
  · refine start_ep (tab_VRs _ pwTab) ?_ h1
    have := h1 0 _ rfl
    rcases Nat.lt_or_ge 1 W.heap.size with h | h
    · exact h
    · simp [World.cell?, Array.getElem?_eq_none h] at this
/-- A law's contract, handed the world's shape as well. -/
theorem handed_shaped {H : Type} {enc : TypeId × Value → H} {a : Assume} {C : Checked} {os : Os} {f : FuncId} {fn : Func} {s : ChangeSpec} {conds : List PathCond} {apart fresh handsOn again : Bool} {X : World → Array Value → Prop}
    (hX : ∀ (w w' : World) (args : Array Value), w.heap = w'.heap → X w args → X w' args)
    (own : ownKnob C.prog.godebug = none) (started : os.Started) (noInit : C.prog.inits.idxOf? f = none) (hfn : C.prog.funcs[f]? = some fn)
    (witness : ∃ (w : World) (tape : Tape) (i : Input), w.os = os ∧ (w.forCall tape i).Shaped C.prog ∧ i.vars = [] ∧ Input.okWide C.prog (w.forCall tape i) .any w.heap.size f i ∧
      ((s.pre enc C.prog fn conds apart (w.forCall tape i).memory i.args ∧ X (w.forCall tape i).memory i.args) ∧ sizedMet enc C.prog fn (OpenSpec.ofChange s) apart (w.forCall tape i).memory i.args) ∧ a.holds C.prog (lone (Frame.enter C.prog f i.args .normal) [] (w.forCall tape i)))
    (contract : ∀ (W : World) (base : Nat) (args : Array Value) (ds gs : List (DataW H)) (before : List MemPlace),
      (∀ (j : Nat) t v, fn.params[j]? = some t → args[j]? = some v → Value.okWide C.prog W .any base t v) →
      DataW.Whole enc C.prog fn.params.toList s.vars apart W args.toList ds gs before → W.ShapedOpen C.prog → X W args →
      Calls C.prog f args W fun e W' => ∃ v, e = .returned v ∧ s.post enc C.prog fn apart fresh handsOn again W args v W') :
    ReturnsInHanded a C os f .any (fun w args => (s.pre enc C.prog fn conds apart w args ∧ X w args) ∧ sizedMet enc C.prog fn (OpenSpec.ofChange s) apart w args) (s.post enc C.prog fn apart fresh handsOn again) := by
  refine returnsInHanded_of_calls own started noInit witness ?_
  intro w tape i _ hsh _ hok hpre hholds
  obtain ⟨_, _, _, fn', hfn', _, _, _, _, hval⟩ := hok
  have e : fn' = fn := Option.some.inj (hfn'.symm.trans hfn)
  subst e
  obtain ⟨⟨⟨ds, gs, before, hw, hc⟩, hx⟩, hz⟩ := hpre
  have hw' := DataW.Whole.of_heap (w' := w.forCall tape i) (by rfl) hw
  refine (contract (w.forCall tape i) w.heap.size i.args ds gs before hval hw' hsh (hX _ _ _ (by rfl) hx)).mono fun e W' ⟨v, he, hp⟩ => ?_
  subst he
  exact ChangeSpec.post_blind hp
end Go.Proofs.YtgjgcjhmaibblaaGreatDoor
