/- What was read has the plain law's form. No condition. -/
import Derived.Test.YtaocejbbmdeinaaDoorFk
import Derived.Test.YtaocejbbmdeinaaDoorTd
namespace Go.Proofs.YtaocejbbmdeinaaDoor
open Go Go.Eng Go.Eng.S
theorem cells24 : Tryd.prog.cellsOf 24 = 4 := by kernel_rfl
theorem cells22 : Tryd.prog.cellsOf 22 = 1 := by kernel_rfl
theorem cells3 : Tryd.prog.cellsOf 3 = 1 := by kernel_rfl
theorem cells4 : Tryd.prog.cellsOf 4 = 1 := by kernel_rfl
theorem cells9 : Tryd.prog.cellsOf 9 = 1 := by kernel_rfl
theorem four {l : List AV} (h : l.length = 4) : ∃ x y z w, l = [x, y, z, w] := by
  match l, h with
  | [x, y, z, w], _ => exact ⟨_, _, _, _, rfl⟩
theorem arg21 {cells : List AV} (h : Sh Tryd.prog 21 cells) : ∃ n, argOf Tryd.prog 21 cells = .int .i32 n ∧ -2147483648 ≤ n ∧ n < 2147483648 := by
  obtain ⟨n, rfl, h1, h2⟩ := h.int_inv Tryd.underlying21
  have e1 : IntKind.i32.min = -2147483648 := by kernel_rfl
  have e2 : IntKind.i32.max = 2147483647 := by kernel_rfl
  exact ⟨n, by unfold argOf; rw [Tryd.underlying21]; rfl, by omega, by omega⟩
theorem arg24 {cells : List AV} (h : Sh Tryd.prog 24 cells) : ∃ a l s t f, argOf Tryd.prog 24 cells = evE a s t f ∧ Names a l ∧ l.length ≤ maxLen ∧ (∀ p ∈ l, p.length ≤ maxLen) ∧ -9223372036854775808 ≤ s ∧ s < 9223372036854775808 := by
  obtain ⟨g1, g2⟩ := h.struct_inv Tryd.underlying24
  rw [cells24] at g1
  have f0 := g2 { name := "Parts", type := 22, offset := 0, embedded := false, tag := "", pkgPath := "", byteOffset := 0 } (by simp)
  have f1 := g2 { name := "Status", type := 3, offset := 1, embedded := false, tag := "", pkgPath := "", byteOffset := 24 } (by simp)
  have f2 := g2 { name := "At", type := 3, offset := 2, embedded := false, tag := "", pkgPath := "", byteOffset := 32 } (by simp)
  have f3 := g2 { name := "Fault", type := 4, offset := 3, embedded := false, tag := "", pkgPath := "", byteOffset := 40 } (by simp)
  dsimp only at f0 f1 f2 f3
  rw [cells22] at f0
  rw [cells3] at f1 f2
  rw [cells4] at f3
  obtain ⟨x, y, z, w, rfl⟩ := four g1
  obtain ⟨a, l, e0, n1, n2, n3⟩ := f0.names Tryd.underlying22 Tryd.underlying9 cells9
  obtain ⟨s, e1, s1, s2⟩ := f1.int_inv Tryd.underlying3
  obtain ⟨t, e2, _⟩ := f2.int_inv Tryd.underlying3
  obtain ⟨f, e3⟩ := f3.bool_inv Tryd.underlying4
  simp at e0 e1 e2 e3
  subst e0 e1 e2 e3
  have m1 : IntKind.i64.min = -9223372036854775808 := by kernel_rfl
  have m2 : IntKind.i64.max = 9223372036854775807 := by kernel_rfl
  exact ⟨_, l, s, t, f, by unfold argOf; rw [Tryd.underlying24]; rfl, n1, n2, n3, by omega, by omega⟩
theorem faultMoves_law (xs : List AV) (h : Shs Tryd.prog [24, 21] xs) : C T 4 xs [] = some (.bool true, []) := by
  obtain ⟨c0, r0, rfl, h0, h⟩ := h.cons_inv
  obtain ⟨c1, r1, rfl, h1, h⟩ := h.cons_inv
  obtain rfl := h.nil_inv
  obtain ⟨a, l, s, t, f, e0, g1, g2, g3, g4, g5⟩ := arg24 h0
  obtain ⟨b, e1, b1, b2⟩ := arg21 h1
  rw [e0, e1]
  exact faultMoves a l g1 g2 g3 s t b f g4 g5 b1 b2
end Go.Proofs.YtaocejbbmdeinaaDoor
