/- Virtual hosts that were read have an abstract form. No condition. -/
import Derived.Test.YtfpknphncaopkaaDoorHm
import Derived.Test.YtfpknphncaopkaaDoorTd
namespace Go.Proofs.YtfpknphncaopkaaDoor
open Go Go.Eng Go.Eng.S
theorem cells44 : Tryd.prog.cellsOf 44 = 3 := by kernel_rfl
theorem cells41 : Tryd.prog.cellsOf 41 = 1 := by kernel_rfl
theorem cells42 : Tryd.prog.cellsOf 42 = 1 := by kernel_rfl
theorem hosts_of {cells : List AV} (h : Sh Tryd.prog 38 cells) : ∃ a hs, cells = [a] ∧ Hosts a hs ∧ Wide hs := by
  have hcl := h.cells
  rcases h.slice_inv Tryd.underlying38 with rfl | ⟨n, cs, rfl, h1, h2, h3⟩
  · exact ⟨_, [], rfl, .inl ⟨rfl, rfl⟩, Nat.zero_le _, fun _ h => nomatch h⟩
  · rw [cells44] at h2 h3 hcl ⊢
    have hat : ∀ i, ∃ (l : List (List UInt8)), i < n → l.length ≤ maxLen ∧ ∃ x y z rest, cs.drop (i * 3) = x :: y :: z :: rest ∧ Names x l ∧ y.isCell = true ∧ z.isCell = true := by
      intro i
      by_cases hi : i < n
      · have hs := h3 i hi
        obtain ⟨g1, g2⟩ := hs.struct_inv Tryd.underlying44
        have gc := hs.cells.2
        rw [cells44] at g1
        obtain ⟨x, y, z, hxyz⟩ : ∃ x y z, (cs.drop (i * 3)).take 3 = [x, y, z] := by
          match hm : (cs.drop (i * 3)).take 3, g1 with
          | [x, y, z], _ => exact ⟨x, y, z, rfl⟩
        rw [hxyz] at gc
        have f0 := g2 { name := "Names", type := 41, offset := 0, embedded := false, tag := "", pkgPath := "", byteOffset := 0 } (by simp)
        simp only [hxyz, cells41, List.drop_zero] at f0
        obtain ⟨a, l, e1, e2, e3, _⟩ := f0.names Tryd.underlying41 Tryd.underlying9 cells9
        simp at e1
        subst e1
        simp only [List.all_cons, Bool.and_eq_true] at gc
        refine ⟨l, fun _ => ⟨e3, x, y, z, (cs.drop (i * 3)).drop 3, ?_, e2, gc.2.1, gc.2.2.1⟩⟩
        conv => lhs; rw [← List.take_append_drop 3 (cs.drop (i * 3)), hxyz]
        rfl
      · exact ⟨[], fun h => absurd h hi⟩
    obtain ⟨L, hL⟩ := Classical.axiomOfChoice hat
    refine ⟨_, (List.range n).map L, rfl, .inr ⟨cs, by simp, by simpa [closedL, AV.closed] using hcl.1, fun i hi => ?_⟩, by simpa using h1, fun l hl => ?_⟩
    · have hi' : i < n := by simpa using hi
      obtain ⟨_, x, y, z, rest, e1, e2, e3, e4⟩ := hL i hi'
      exact ⟨x, y, z, rest, e1, by simpa using e2, e3, e4⟩
    · obtain ⟨i, hi, rfl⟩ := List.mem_map.1 hl
      exact (hL i (by simpa using hi)).1
theorem arg9 {cells : List AV} (h : Sh Tryd.prog 9 cells) : ∃ s, argOf Tryd.prog 9 cells = .str s := by
  obtain ⟨s, rfl, _⟩ := h.str_inv Tryd.underlying9
  exact ⟨s, by unfold argOf; rw [Tryd.underlying9]; rfl⟩
theorem arg3 {cells : List AV} (h : Sh Tryd.prog 3 cells) : ∃ n, argOf Tryd.prog 3 cells = .int .i64 n := by
  obtain ⟨n, rfl, _⟩ := h.int_inv Tryd.underlying3
  exact ⟨n, by unfold argOf; rw [Tryd.underlying3]; rfl⟩
theorem arg46 {cells : List AV} (h : Sh Tryd.prog 46 cells) : ∃ n, argOf Tryd.prog 46 cells = .int .u16 n ∧ 0 ≤ n ∧ n ≤ 65535 := by
  obtain ⟨n, rfl, h1, h2⟩ := h.int_inv Tryd.underlying46
  exact ⟨n, by unfold argOf; rw [Tryd.underlying46]; rfl, h1, h2⟩
theorem arg38 {cells : List AV} (h : Sh Tryd.prog 38 cells) : ∃ a hs, argOf Tryd.prog 38 cells = a ∧ Hosts a hs ∧ Wide hs := by
  obtain ⟨a, hs, rfl, h1, h2⟩ := hosts_of h
  exact ⟨a, hs, by unfold argOf; rw [Tryd.underlying38]; rfl, h1, h2⟩
theorem hostInverse_law (xs : List AV) (h : Shs Tryd.prog [9, 3] xs) : C T 4 xs [] = some (.bool true, []) := by
  obtain ⟨c0, r0, rfl, h0, h⟩ := h.cons_inv
  obtain ⟨c1, r1, rfl, h1, h⟩ := h.cons_inv
  obtain rfl := h.nil_inv
  obtain ⟨s, e0⟩ := arg9 h0
  obtain ⟨n, e1⟩ := arg3 h1
  rw [e0, e1]
  exact hostInverse s n
theorem hostFinds_law (xs : List AV) (h : Shs Tryd.prog [38, 9] xs) : C T 5 xs [] = some (.bool true, []) := by
  obtain ⟨c0, r0, rfl, h0, h⟩ := h.cons_inv
  obtain ⟨c1, r1, rfl, h1, h⟩ := h.cons_inv
  obtain rfl := h.nil_inv
  obtain ⟨a, hs, e0, g1, g2⟩ := arg38 h0
  obtain ⟨s, e1⟩ := arg9 h1
  rw [e0, e1]
  exact hostFinds a hs g1 g2 s
theorem hostCase_law (xs : List AV) (h : Shs Tryd.prog [38, 9, 46] xs) : C T 6 xs [] = some (.bool true, []) := by
  obtain ⟨c0, r0, rfl, h0, h⟩ := h.cons_inv
  obtain ⟨c1, r1, rfl, h1, h⟩ := h.cons_inv
  obtain ⟨c2, r2, rfl, h2, h⟩ := h.cons_inv
  obtain rfl := h.nil_inv
  obtain ⟨a, hs, e0, g1, g2⟩ := arg38 h0
  obtain ⟨s, e1⟩ := arg9 h1
  obtain ⟨n, e2, p0, p1⟩ := arg46 h2
  rw [e0, e1, e2]
  exact hostCase a hs g1 g2 s n p0 p1
end Go.Proofs.YtfpknphncaopkaaDoor
