/- What was read has the plain laws' form. No condition. -/
import Derived.Test.YtpdkdkdcmnipfaaGreatDoorKv
import Derived.Test.YtpdkdkdcmnipfaaGreatDoorLa
import Derived.Test.YtpdkdkdcmnipfaaGreatDoorLb
import Derived.Test.YtpdkdkdcmnipfaaGreatDoorLc
import Derived.Test.YtpdkdkdcmnipfaaGreatDoorTd
namespace Go.Proofs.YtpdkdkdcmnipfaaGreatDoor
open Go Go.Eng Go.Eng.S
theorem cells24 : Tryz.prog.cellsOf 24 = 4 := by kernel_rfl
theorem cells3 : Tryz.prog.cellsOf 3 = 1 := by kernel_rfl
theorem arg22 {cells : List AV} (h : Sh Tryz.prog 22 cells) : ∃ a l, argOf Tryz.prog 22 cells = a ∧ Bytes a l := by
  obtain ⟨a, l, rfl, h1, _⟩ := h.bytes Tryz.underlying22 Tryz.underlying5 cells5
  exact ⟨a, l, by unfold argOf; rw [Tryz.underlying22]; rfl, h1⟩
theorem four {l : List AV} (h : l.length = 4) : ∃ x y z w, l = [x, y, z, w] := by
  match l, h with
  | [x, y, z, w], _ => exact ⟨_, _, _, _, rfl⟩
theorem arg24 {cells : List AV} (h : Sh Tryz.prog 24 cells) : ∃ l : Lims, argOf Tryz.prog 24 cells = l.av := by
  obtain ⟨g1, g2⟩ := h.struct_inv Tryz.underlying24
  rw [cells24] at g1
  have f0 := g2 { name := "Line", type := 3, offset := 0, embedded := false, tag := "", pkgPath := "", byteOffset := 0 } (by simp)
  have f1 := g2 { name := "Head", type := 3, offset := 1, embedded := false, tag := "", pkgPath := "", byteOffset := 8 } (by simp)
  have f2 := g2 { name := "Fields", type := 3, offset := 2, embedded := false, tag := "", pkgPath := "", byteOffset := 16 } (by simp)
  have f3 := g2 { name := "Body", type := 3, offset := 3, embedded := false, tag := "", pkgPath := "", byteOffset := 24 } (by simp)
  dsimp only at f0 f1 f2 f3
  rw [cells3] at f0 f1 f2 f3
  obtain ⟨x, y, z, w, rfl⟩ := four g1
  obtain ⟨a, e0, _⟩ := f0.int_inv Tryz.underlying3
  obtain ⟨b, e1, _⟩ := f1.int_inv Tryz.underlying3
  obtain ⟨c, e2, _⟩ := f2.int_inv Tryz.underlying3
  obtain ⟨d, e3, _⟩ := f3.int_inv Tryz.underlying3
  simp at e0 e1 e2 e3
  subst e0 e1 e2 e3
  exact ⟨⟨a, b, c, d⟩, by unfold argOf; rw [Tryz.underlying24]; rfl⟩
theorem cells22 : Tryz.prog.cellsOf 22 = 1 := by kernel_rfl
theorem arg5 {cells : List AV} (h : Sh Tryz.prog 5 cells) : ∃ n, argOf Tryz.prog 5 cells = .int .u8 n ∧ 0 ≤ n ∧ n ≤ 255 := by
  obtain ⟨n, rfl, h1, h2⟩ := h.int_inv Tryz.underlying5
  exact ⟨n, by unfold argOf; rw [Tryz.underlying5]; rfl, h1, h2⟩
theorem arg9 {cells : List AV} (h : Sh Tryz.prog 9 cells) : ∃ s, argOf Tryz.prog 9 cells = .str s := by
  obtain ⟨s, rfl, _⟩ := h.str_inv Tryz.underlying9
  exact ⟨s, by unfold argOf; rw [Tryz.underlying9]; rfl⟩
theorem arg41 {cells : List AV} (h : Sh Tryz.prog 41 cells) : ∃ a ps, argOf Tryz.prog 41 cells = a ∧ Parts a ps := by
  have hcl := h.cells
  rcases h.slice_inv Tryz.underlying41 with rfl | ⟨n, cs, rfl, h1, h2, h3⟩
  · exact ⟨_, [], by unfold argOf; rw [Tryz.underlying41]; rfl, .inl ⟨rfl, rfl⟩⟩
  · rw [cells22] at h2 h3 hcl ⊢
    have hat : ∀ i, ∃ (l : List UInt8), i < n → ∃ v rest, cs.drop i = v :: rest ∧ Bytes v l := by
      intro i
      by_cases hi : i < n
      · have hs := h3 i hi
        simp only [Nat.mul_one] at hs h2
        obtain ⟨a, l, e1, e2, _⟩ := hs.bytes Tryz.underlying22 Tryz.underlying5 cells5
        refine ⟨l, fun _ => ⟨a, (cs.drop i).drop 1, ?_, e2⟩⟩
        conv => lhs; rw [← List.take_append_drop 1 (cs.drop i), e1]
        rfl
      · exact ⟨[], fun h => absurd h hi⟩
    obtain ⟨L, hL⟩ := Classical.axiomOfChoice hat
    have hlen : ((List.range n).map L).length = n := by simp
    refine ⟨.sl false n 1 cs, (List.range n).map L, by unfold argOf; rw [Tryz.underlying41]; rfl, .inr ⟨cs, by rw [hlen], by simpa [closedL, AV.closed] using hcl.1, fun i p hp => ?_⟩⟩
    rw [List.getElem?_map, Option.map_eq_some_iff] at hp
    obtain ⟨j, hj, rfl⟩ := hp
    obtain ⟨hj1, hj2⟩ := List.getElem?_eq_some_iff.1 hj
    simp at hj1 hj2
    subst hj2
    exact hL i hj1
theorem chunkedDecodes_law (xs : List AV) (h : Shs Tryz.prog [22, 24] xs) : C T 3 xs [] = some (.bool true, []) := by
  obtain ⟨c0, r0, rfl, h0, h⟩ := h.cons_inv
  obtain ⟨c1, r1, rfl, h1, h⟩ := h.cons_inv
  obtain rfl := h.nil_inv
  obtain ⟨a, b, e0, g0⟩ := arg22 h0
  obtain ⟨l, e1⟩ := arg24 h1
  rw [e0, e1]
  exact chunkedDecodes a b g0 l
theorem chunkedSteps_law (xs : List AV) (h : Shs Tryz.prog [22, 24] xs) : C T 4 xs [] = some (.bool true, []) := by
  obtain ⟨c0, r0, rfl, h0, h⟩ := h.cons_inv
  obtain ⟨c1, r1, rfl, h1, h⟩ := h.cons_inv
  obtain rfl := h.nil_inv
  obtain ⟨a, b, e0, g0⟩ := arg22 h0
  obtain ⟨l, e1⟩ := arg24 h1
  rw [e0, e1]
  exact chunkedSteps a b g0 l
theorem chunkedInverse_law (xs : List AV) (h : Shs Tryz.prog [41, 22] xs) : C T 5 xs [] = some (.bool true, []) := by
  obtain ⟨c0, r0, rfl, h0, h⟩ := h.cons_inv
  obtain ⟨c1, r1, rfl, h1, h⟩ := h.cons_inv
  obtain rfl := h.nil_inv
  obtain ⟨a, ps, e0, g0⟩ := arg41 h0
  obtain ⟨m, b, e1, g1⟩ := arg22 h1
  rw [e0, e1]
  exact chunkedInverse a ps g0 m b g1
theorem chunkedLimits_law (xs : List AV) (h : Shs Tryz.prog [22, 5] xs) : C T 6 xs [] = some (.bool true, []) := by
  obtain ⟨c0, r0, rfl, h0, h⟩ := h.cons_inv
  obtain ⟨c1, r1, rfl, h1, h⟩ := h.cons_inv
  obtain rfl := h.nil_inv
  obtain ⟨a, b, e0, g0⟩ := arg22 h0
  obtain ⟨n, e1, p0, p1⟩ := arg5 h1
  rw [e0, e1]
  exact chunkedLimits a b g0 n p0 p1
theorem chunkedTrailers_law (xs : List AV) (h : Shs Tryz.prog [22, 9, 9] xs) : C T 7 xs [] = some (.bool true, []) := by
  obtain ⟨c0, r0, rfl, h0, h⟩ := h.cons_inv
  obtain ⟨c1, r1, rfl, h1, h⟩ := h.cons_inv
  obtain ⟨c2, r2, rfl, h2, h⟩ := h.cons_inv
  obtain rfl := h.nil_inv
  obtain ⟨a, b, e0, g0⟩ := arg22 h0
  obtain ⟨s, e1⟩ := arg9 h1
  obtain ⟨t, e2⟩ := arg9 h2
  rw [e0, e1, e2]
  exact chunkedTrailers a b g0 s t
end Go.Proofs.YtpdkdkdcmnipfaaGreatDoor
