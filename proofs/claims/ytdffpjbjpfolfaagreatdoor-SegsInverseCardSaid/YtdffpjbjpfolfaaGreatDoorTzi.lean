/- What was read has the plain law's form: SegsInverse. No condition. -/
import Derived.Test.YtdffpjbjpfolfaaGreatDoorIa
import Derived.Test.YtdffpjbjpfolfaaGreatDoorTd
namespace Go.Proofs.YtdffpjbjpfolfaaGreatDoor
open Go Go.Eng Go.Eng.S
theorem cells9 : Tryz.prog.cellsOf 9 = 1 := by kernel_rfl
theorem arg23 {cells : List AV} (h : Sh Tryz.prog 23 cells) : ∃ a l, argOf Tryz.prog 23 cells = a ∧ Names a l ∧ l.length ≤ maxLen := by
  obtain ⟨a, l, rfl, h1, h2, _⟩ := h.names Tryz.underlying23 Tryz.underlying9 cells9
  exact ⟨a, l, by unfold argOf; rw [Tryz.underlying23]; rfl, h1, h2⟩
theorem arg4 {cells : List AV} (h : Sh Tryz.prog 4 cells) : ∃ b, argOf Tryz.prog 4 cells = .bool b := by
  obtain ⟨b, rfl⟩ := h.bool_inv Tryz.underlying4
  exact ⟨b, by unfold argOf; rw [Tryz.underlying4]; rfl⟩
theorem segsInverse_law (xs : List AV) (h : Shs Tryz.prog [23, 4] xs) : C T 4 xs [] = some (.bool true, []) := by
  obtain ⟨c0, r0, rfl, h0, h⟩ := h.cons_inv
  obtain ⟨c1, r1, rfl, h1, h⟩ := h.cons_inv
  obtain rfl := h.nil_inv
  obtain ⟨a, l, e0, g1, g2⟩ := arg23 h0
  obtain ⟨b, e1⟩ := arg4 h1
  rw [e0, e1]
  exact segsInverse g1 g2 b
end Go.Proofs.YtdffpjbjpfolfaaGreatDoor
