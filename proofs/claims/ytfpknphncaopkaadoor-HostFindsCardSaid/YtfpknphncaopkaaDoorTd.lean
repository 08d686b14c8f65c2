/- What the listed variables hold when a law of this seat begins; a law's call out of its abstract answer. No condition. -/
import Derived.Test.YtfpknphncaopkaaDoorTc
import Derived.Test.YtfpknphncaopkaaDoorEf
import Derived.Test.YtfpknphncaopkaaDoorRows
import Derived.OpenShut
import Derived.LaidMore
import Derived.LaidLaws
import Derived.LaidHandle
import Derived.Deep.Strs
import Derived.Stop.Joined
namespace Go.Proofs.YtfpknphncaopkaaDoor
open Go Go.Eng Go.Eng.S Go.ChangeShapes Go.WideShapes Go.RowKit

abbrev laid1 : List (String × DataW Unit) := [("errors.errorType", Rows.laid_errors_errorType), ("doorkeeper/host.classes", Rows.laid_doorkeeper_host_classes)]
theorem own : ownKnob Tryd.prog.godebug = none := by kernel_rfl
theorem gClasses : Tryd.prog.globalNamed "doorkeeper/host.classes" = some 0 := by kernel_rfl
theorem tClasses : (Tryd.prog.globals[0]?).map (·.type) = some 66 := by kernel_rfl
theorem gEt : Tryd.prog.globalNamed "errors.errorType" = some 1 := by kernel_rfl
theorem rtT : (Tryd.prog.cutTypes.find? (·.1 == "internal/reflectlite.rtype")).map (·.2) = some 114 := by kernel_rfl
theorem nTypes : Tryd.prog.types.size = 177 := by kernel_rfl
theorem oneRow : ((List.range 177).filter fun t => Tryd.prog.rowNamed t [101, 114, 114, 111, 114]) = [26] := by kernel_rfl
theorem cells65 : Tryd.prog.cellsOf 65 = 3 := by kernel_rfl
theorem cells66 : Tryd.prog.cellsOf 66 = 6 := by kernel_rfl
theorem cells9 : Tryd.prog.cellsOf 9 = 1 := by kernel_rfl
theorem cells63 : Tryd.prog.cellsOf 63 = 1 := by kernel_rfl

theorem door_met (os : Os) (args : Array Value) : laidMetH Tryd.prog laid1 ((World.doorLaid Tryd.prog 600 os).forCall (fun _ _ => 0) ⟨#[], args, []⟩).memory :=
  laidMetH_of_parts3 (fuel := 8) (laidMet_of_run' 8 (by kernel_rfl) (by kernel_rfl)) (by kernel_rfl) (by kernel_rfl)

set_option maxRecDepth 10000 in
theorem class_of {W : World} {fuel : Nat} {cs : List Value} {y : DataW (List UInt8) × List MemPlace} {l1 l2 r : List UInt8} {b : UInt8} {f0 : FuncId} (h : DataW.trod (funcToken Tryd.prog) Tryd.prog W 0 (fun _ => true) true fuel 65 cs = some y)
    (hy : y.1 = .agg [.lit (.string l1), .lit (.string l2), .held (b :: r)]) (hone : ((List.range Tryd.prog.funcs.size).filter fun f => (Tryd.prog.funcs[f]?).any (·.name.toUTF8.data.toList == b :: r)) = [f0]) :
    cs = [.string ⟨l1.toArray⟩, .string ⟨l2.toArray⟩, .func (.func f0) #[] #[]] := by
  obtain ⟨y0, y1, y2, n, rfl, hl, h0, h1, h2⟩ := Go.Deep.trod_struct3 Tryd.underlying65 h
  rw [cells65] at hl
  match cs, hl with
  | [c0, c1, c2], _ =>
    simp only [cells9, cells63] at h0 h1 h2
    simp at h0 h1 h2
    injection hy with e
    injection e with e0 e
    injection e with e1 e
    injection e with e2 e
    obtain ⟨s0, hs0, hx0, _⟩ := DataW.trod_string Tryd.underlying9 h0
    obtain ⟨s1, hs1, hx1, _⟩ := DataW.trod_string Tryd.underlying9 h1
    obtain ⟨z, q⟩ := y2
    simp only at e2
    subst e2
    obtain rfl := func_of_trod Tryd.underlying63 hone h2
    subst hx0 hx1
    simp at hs0 hs1 e0 e1
    subst hs0 hs1 e0 e1
    simp

set_option maxRecDepth 10000 in
theorem laid_cells {W : World} (h : laidMetH Tryd.prog laid1 W) :
    (∀ (k : Nat) (v : Value), [Value.string ⟨[91].toArray⟩, .string ⟨[93].toArray⟩, .func (.func 111) #[] #[], .string ⟨[].toArray⟩, .string ⟨[].toArray⟩, .func (.func 113) #[] #[]][k]? = some v → W.cell? ⟨0, 0 + k, none⟩ = some v) ∧
    W.cell? ⟨1, 0, none⟩ = some (.iface 114 (.agg #[.pointer (some ⟨5, 26, none⟩)])) := by
  refine ⟨?_, ?_⟩
  · obtain ⟨g, t, cs, fuel, p, hg, ht, hv, hd⟩ := h.funcs (n := "doorkeeper/host.classes") (List.mem_cons_of_mem _ (List.mem_singleton.2 rfl))
    obtain rfl := Option.some.inj (gClasses.symm.trans hg)
    obtain rfl := Option.some.inj (tClasses.symm.trans ht)
    obtain ⟨xs, m, rfl, hx, hl, hn, hel⟩ := DataW.trod_array Tryd.underlying66 hd
    rw [cells66] at hl
    match xs, hn with
    | [x0, x1], _ =>
      have h0 := hel 0 (by decide)
      have h1 := hel 1 (by decide)
      rw [cells65] at h0 h1
      have hx' := congrArg Prod.fst hx
      injection hx' with e
      injection e with e0 e
      injection e with e1 e
      have c0 := class_of (f0 := 111) h0 e0.symm (by kernel_rfl)
      have c1 := class_of (f0 := 113) h1 e1.symm (by kernel_rfl)
      obtain ⟨cs⟩ := cs
      match cs, hl with
      | [a0, a1, a2, a3, a4, a5], _ =>
        simp at c0 c1
        obtain ⟨rfl, rfl, rfl⟩ := c0
        obtain ⟨rfl, rfl, rfl⟩ := c1
        intro k v hk
        have hc := World.var?_cell hg hv k
        rw [Nat.zero_add, hc]
        simpa using hk
  · have h' : laidMet Tryd.prog [] W ∧ handlesMet Tryd.prog laid1 W := h
    obtain ⟨name, u, ty, e1, e2, e3, e4, e5⟩ := h'.2 _ (List.mem_cons_self ..)
    have en : name = [101, 114, 114, 111, 114] := (Option.some.inj e1).symm
    subst en
    obtain rfl := Option.some.inj (rtT.symm.trans e2)
    have hm : ty ∈ (List.range 177).filter fun t => Tryd.prog.rowNamed t [101, 114, 114, 111, 114] := List.mem_filter.2 ⟨List.mem_range.2 (by rw [← nTypes]; exact e3), e4⟩
    rw [oneRow] at hm
    obtain rfl := List.mem_singleton.1 hm
    have hh : typeHandle Tryd.prog 26 = .pointer (some ⟨5, 26, none⟩) := by kernel_rfl
    rw [hh] at e5
    simpa using World.var?_cell gEt e5 0

theorem laid_glob {W : World} (h : laidMetH Tryd.prog laid1 W) : ∀ n cs, T.glob n = some cs → VR (Cx.start W) (.ep cs) (.pointer (some ⟨n, 0, none⟩)) := by
  obtain ⟨h1, h2⟩ := laid_cells h
  intro n cs hn
  unfold T globT at hn
  dsimp only at hn
  split at hn <;> cases hn
  · refine start_ep (.cons (.str _) (.cons (.str _) (.cons (.fn _ _ _ _ _ rfl (by simp) rfl (by simp)) (.cons (.str _) (.cons (.str _) (.cons (.fn _ _ _ _ _ rfl (by simp) rfl (by simp)) (.nil _))))))) ?_ h1
    have := h1 0 _ rfl
    rcases Nat.lt_or_ge 0 W.heap.size with h | h
    · exact h
    · simp [World.cell?, Array.getElem?_eq_none h] at this
  · refine start_ep (.cons (ty_VR 26) (.nil _)) ?_ ?_
    · rcases Nat.lt_or_ge 1 W.heap.size with h | h
      · exact h
      · simp [World.cell?, Array.getElem?_eq_none h] at h2
    · intro k v hk
      cases k with
      | zero => simp at hk; subst hk; exact h2
      | succ k => simp at hk
end Go.Proofs.YtfpknphncaopkaaDoor
