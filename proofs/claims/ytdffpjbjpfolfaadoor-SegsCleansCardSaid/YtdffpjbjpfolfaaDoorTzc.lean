/- What was read has the plain law's form: SegsCleans. No condition. -/
import Derived.Test.YtdffpjbjpfolfaaDoorGs
import Derived.Test.YtdffpjbjpfolfaaDoorTd
namespace Go.Proofs.YtdffpjbjpfolfaaDoor
open Go Go.Eng Go.Eng.S
theorem cells9 : Tryd.prog.cellsOf 9 = 1 := by kernel_rfl
theorem arg23 {cells : List AV} (h : Sh Tryd.prog 23 cells) : ∃ a l, argOf Tryd.prog 23 cells = a ∧ Names a l ∧ l.length ≤ maxLen := by
  obtain ⟨a, l, rfl, h1, h2, _⟩ := h.names Tryd.underlying23 Tryd.underlying9 cells9
  exact ⟨a, l, by unfold argOf; rw [Tryd.underlying23]; rfl, h1, h2⟩
theorem segsCleans_law (xs : List AV) (h : Shs Tryd.prog [23] xs) : C T 4 xs [] = some (.bool true, []) := by
  obtain ⟨c0, r0, rfl, h0, h⟩ := h.cons_inv
  obtain rfl := h.nil_inv
  obtain ⟨a, l, e0, g1, g2⟩ := arg23 h0
  rw [e0]
  exact segsCleans g1 g2
end Go.Proofs.YtdffpjbjpfolfaaDoor
