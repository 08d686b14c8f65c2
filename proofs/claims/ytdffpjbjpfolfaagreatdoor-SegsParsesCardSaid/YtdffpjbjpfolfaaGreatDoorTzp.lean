/- What was read has the plain law's form: SegsParses. No condition. -/
import Derived.Test.YtdffpjbjpfolfaaGreatDoorGv
import Derived.Test.YtdffpjbjpfolfaaGreatDoorTd
namespace Go.Proofs.YtdffpjbjpfolfaaGreatDoor
open Go Go.Eng Go.Eng.S
theorem arg9 {cells : List AV} (h : Sh Tryz.prog 9 cells) : ∃ s, argOf Tryz.prog 9 cells = .str s := by
  obtain ⟨s, rfl, _⟩ := h.str_inv Tryz.underlying9
  exact ⟨s, by unfold argOf; rw [Tryz.underlying9]; rfl⟩
theorem segsParses_law (xs : List AV) (h : Shs Tryz.prog [9] xs) : C T 3 xs [] = some (.bool true, []) := by
  obtain ⟨c0, r0, rfl, h0, h⟩ := h.cons_inv
  obtain rfl := h.nil_inv
  obtain ⟨s, e0⟩ := arg9 h0
  rw [e0]
  exact segsParses s
end Go.Proofs.YtdffpjbjpfolfaaGreatDoor
