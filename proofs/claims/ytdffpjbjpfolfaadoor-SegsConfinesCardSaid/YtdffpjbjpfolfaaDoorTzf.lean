/- What was read has the plain law's form: SegsConfines. No condition. -/
import Derived.Test.YtdffpjbjpfolfaaDoorGt
import Derived.Test.YtdffpjbjpfolfaaDoorTd
namespace Go.Proofs.YtdffpjbjpfolfaaDoor
open Go Go.Eng Go.Eng.S
theorem arg9 {cells : List AV} (h : Sh Tryd.prog 9 cells) : ∃ s, argOf Tryd.prog 9 cells = .str s := by
  obtain ⟨s, rfl, _⟩ := h.str_inv Tryd.underlying9
  exact ⟨s, by unfold argOf; rw [Tryd.underlying9]; rfl⟩
theorem segsConfines_law (xs : List AV) (h : Shs Tryd.prog [9] xs) : C T 3 xs [] = some (.bool true, []) := by
  obtain ⟨c0, r0, rfl, h0, h⟩ := h.cons_inv
  obtain rfl := h.nil_inv
  obtain ⟨s, e0⟩ := arg9 h0
  rw [e0]
  exact segsConfines s
end Go.Proofs.YtdffpjbjpfolfaaDoor
