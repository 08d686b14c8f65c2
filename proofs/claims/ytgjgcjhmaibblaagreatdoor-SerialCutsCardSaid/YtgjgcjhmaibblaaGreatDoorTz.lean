/- What was read has the laws' form. No condition. -/
import Derived.Test.YtgjgcjhmaibblaaGreatDoorMi
import Derived.Test.YtgjgcjhmaibblaaGreatDoorTd
namespace Go.Proofs.YtgjgcjhmaibblaaGreatDoor
open Go Go.Eng Go.Eng.S
theorem cells29 : Tryz.prog.cellsOf 29 = 3 := by kernel_rfl
theorem cells28 : Tryz.prog.cellsOf 28 = 3 := by kernel_rfl
theorem cells47 : Tryz.prog.cellsOf 47 = 2 := by kernel_rfl
theorem cells25 : Tryz.prog.cellsOf 25 = 1 := by kernel_rfl
theorem cells26 : Tryz.prog.cellsOf 26 = 1 := by kernel_rfl
theorem cells27 : Tryz.prog.cellsOf 27 = 1 := by kernel_rfl
theorem cells9 : Tryz.prog.cellsOf 9 = 1 := by kernel_rfl
theorem cells5 : Tryz.prog.cellsOf 5 = 1 := by kernel_rfl
theorem cells4 : Tryz.prog.cellsOf 4 = 1 := by kernel_rfl
theorem maxL : maxLen = 9223372036854775807 := rfl
theorem two {l : List AV} (h : l.length = 2) : ∃ x y, l = [x, y] := by
  match l, h with
  | [x, y], _ => exact ⟨_, _, rfl⟩
theorem three {l : List AV} (h : l.length = 3) : ∃ x y z, l = [x, y, z] := by
  match l, h with
  | [x, y, z], _ => exact ⟨_, _, _, rfl⟩
theorem fld47 {cells : List AV} (h : Sh Tryz.prog 47 cells) : ∃ x y : Seg, cells = [.str x, .str y] ∧ x.length ≤ maxLen ∧ y.length ≤ maxLen := by
  obtain ⟨g1, g2⟩ := h.struct_inv Tryz.underlying47
  rw [cells47] at g1
  have f0 := g2 { name := "Name", type := 9, offset := 0, embedded := false, tag := "", pkgPath := "", byteOffset := 0 } (by simp)
  have f1 := g2 { name := "Value", type := 9, offset := 1, embedded := false, tag := "", pkgPath := "", byteOffset := 16 } (by simp)
  dsimp only at f0 f1
  rw [cells9] at f0 f1
  obtain ⟨x, y, rfl⟩ := two g1
  obtain ⟨a, e0, h0⟩ := f0.str_inv Tryz.underlying9
  obtain ⟨b, e1, h1⟩ := f1.str_inv Tryz.underlying9
  simp at e0 e1
  subst e0 e1
  exact ⟨a, b, rfl, h0, h1⟩
theorem flds_of_cells : ∀ (n : Nat) (cs : List AV), cs.length = n * 2 → (∀ i, i < n → Sh Tryz.prog 47 ((cs.drop (i * 2)).take 2)) → ∃ l : List Fld, cs = fcells l ∧ l.length = n ∧ ∀ f ∈ l, f.1.length < 9223372036854775808 ∧ f.2.length < 9223372036854775808
  | 0, cs, hl, _ => ⟨[], List.eq_nil_of_length_eq_zero (by simpa using hl), rfl, fun f hf => by cases hf⟩
  | n + 1, cs, hl, h => by
    obtain ⟨x, y, e, h1, h2⟩ := fld47 (h 0 (by omega))
    simp only [Nat.zero_mul, List.drop_zero] at e
    obtain ⟨l, g1, g2, g3⟩ := flds_of_cells n (cs.drop 2) (by simp; omega) (fun i hi => by
      have := h (i + 1) (by omega)
      rw [List.drop_drop]
      rw [show (i + 1) * 2 = 2 + i * 2 by omega] at this
      exact this)
    have ec : cs = .str x :: .str y :: cs.drop 2 := by
      conv => lhs; rw [← List.take_append_drop 2 cs, e]
      rfl
    have hm := maxL
    refine ⟨(x, y) :: l, by rw [ec, g1]; rfl, by simp [g2], fun f hf => ?_⟩
    rcases List.mem_cons.1 hf with rfl | hf
    · exact ⟨by simp only; omega, by simp only; omega⟩
    · exact g3 f hf
theorem arg26 {cells : List AV} (h : Sh Tryz.prog 26 cells) : ∃ a l, cells = [a] ∧ FV a l ∧ Huge l := by
  rcases h.slice_inv Tryz.underlying26 with rfl | ⟨n, cs, rfl, h1, h2, h3⟩
  · exact ⟨_, [], rfl, .inl ⟨rfl, rfl⟩, by decide, fun f hf => by cases hf⟩
  · rw [cells47] at h2 h3 ⊢
    obtain ⟨l, g1, g2, g3⟩ := flds_of_cells n cs h2 h3
    have hm := maxL
    exact ⟨_, l, rfl, .inr (by rw [g1, g2]), by omega, g3⟩
theorem arg29 {cells : List AV} (h : Sh Tryz.prog 29 cells) : ∃ (r : Rsp) (fs bd : AV), cells = [.int .i64 r.1, fs, bd] ∧ FV fs r.2.1 ∧ BV bd r.2.2 ∧ ArgR r := by
  obtain ⟨g1, g2⟩ := h.struct_inv Tryz.underlying29
  rw [cells29] at g1
  have f0 := g2 { name := "Status", type := 25, offset := 0, embedded := false, tag := "", pkgPath := "", byteOffset := 0 } (by simp)
  have f1 := g2 { name := "Fields", type := 26, offset := 1, embedded := false, tag := "", pkgPath := "", byteOffset := 8 } (by simp)
  have f2 := g2 { name := "Body", type := 27, offset := 2, embedded := false, tag := "", pkgPath := "", byteOffset := 32 } (by simp)
  dsimp only at f0 f1 f2
  rw [cells25] at f0
  rw [cells26] at f1
  rw [cells27] at f2
  obtain ⟨x, y, z, rfl⟩ := three g1
  obtain ⟨st, e0, s1, s2⟩ := f0.int_inv Tryz.underlying25
  obtain ⟨a, l, e1, hF, hH⟩ := arg26 f1
  obtain ⟨c, b, e2, hB, hb⟩ := f2.bytes Tryz.underlying27 Tryz.underlying5 cells5
  simp at e0 e1 e2
  subst e0 e1 e2
  have m1 : IntKind.i64.min = -9223372036854775808 := by kernel_rfl
  have m2 : IntKind.i64.max = 9223372036854775807 := by kernel_rfl
  have hm := maxL
  refine ⟨(st, l, b), _, _, rfl, hF, ?_, ⟨by simp only; omega, by simp only; omega, hH, by simp only; omega⟩⟩
  rcases hB with ⟨e, rfl⟩ | e
  · exact .inl ⟨rfl, e⟩
  · exact .inr e
theorem rsps_of_cells : ∀ (n : Nat) (cs : List AV), cs.length = n * 3 → (∀ i, i < n → Sh Tryz.prog 29 ((cs.drop (i * 3)).take 3)) → ∃ L : List Rsp, RCs cs L ∧ L.length = n ∧ ∀ r ∈ L, ArgR r
  | 0, cs, hl, _ => by
    obtain rfl : cs = [] := List.eq_nil_of_length_eq_zero (by simpa using hl)
    exact ⟨[], trivial, rfl, fun r hr => by cases hr⟩
  | n + 1, cs, hl, h => by
    obtain ⟨r, fs, bd, e, h1, h2, h3⟩ := arg29 (h 0 (by omega))
    simp only [Nat.zero_mul, List.drop_zero] at e
    obtain ⟨L, g1, g2, g3⟩ := rsps_of_cells n (cs.drop 3) (by simp; omega) (fun i hi => by
      have := h (i + 1) (by omega)
      rw [List.drop_drop]
      rw [show (i + 1) * 3 = 3 + i * 3 by omega] at this
      exact this)
    have ec : cs = .int .i64 r.1 :: fs :: bd :: cs.drop 3 := by
      conv => lhs; rw [← List.take_append_drop 3 cs, e]
      rfl
    refine ⟨r :: L, by rw [ec]; exact ⟨rfl, h1, h2, g1⟩, by simp [g2], fun s hs => ?_⟩
    rcases List.mem_cons.1 hs with rfl | hs
    · exact h3
    · exact g3 s hs
theorem arg22 {cells : List AV} (h : Sh Tryz.prog 22 cells) : ∃ a L, argOf Tryz.prog 22 cells = a ∧ LV a L ∧ (∀ r ∈ L, ArgR r) ∧ L.length < 9223372036854775808 := by
  rcases h.slice_inv Tryz.underlying22 with rfl | ⟨n, cs, rfl, h1, h2, h3⟩
  · exact ⟨.cst (.slice none 0 0), [], by unfold argOf; rw [Tryz.underlying22]; rfl, .inl ⟨rfl, rfl⟩, fun r hr => (by cases hr), by decide⟩
  · rw [cells29] at h2 h3 ⊢
    obtain ⟨L, g1, g2, g3⟩ := rsps_of_cells n cs h2 h3
    have hm := maxL
    exact ⟨.sl false n 3 cs, L, by unfold argOf; rw [Tryz.underlying22]; rfl, .inr ⟨cs, by rw [g2], g1⟩, g3, by omega⟩
theorem arg27 {cells : List AV} (h : Sh Tryz.prog 27 cells) : ∃ a b, argOf Tryz.prog 27 cells = a ∧ BV a b ∧ b.length < 9223372036854775808 := by
  obtain ⟨a, b, rfl, h1, h2⟩ := h.bytes Tryz.underlying27 Tryz.underlying5 cells5
  have hm := maxL
  refine ⟨a, b, by unfold argOf; rw [Tryz.underlying27]; rfl, ?_, by omega⟩
  rcases h1 with ⟨e, rfl⟩ | e
  · exact .inl ⟨rfl, e⟩
  · exact .inr e
theorem bools_of_cells : ∀ (n : Nat) (cs : List AV), cs.length = n * 1 → (∀ i, i < n → Sh Tryz.prog 4 ((cs.drop (i * 1)).take 1)) → ∃ l : List Bool, cs = l.map .bool ∧ l.length = n
  | 0, cs, hl, _ => ⟨[], List.eq_nil_of_length_eq_zero (by simpa using hl), rfl⟩
  | n + 1, cs, hl, h => by
    obtain ⟨x, e⟩ := (h 0 (by omega)).bool_inv Tryz.underlying4
    simp only [Nat.zero_mul, List.drop_zero] at e
    obtain ⟨l, g1, g2⟩ := bools_of_cells n (cs.drop 1) (by simp; omega) (fun i hi => by
      have := h (i + 1) (by omega)
      rw [List.drop_drop]
      rw [show (i + 1) * 1 = 1 + i * 1 by omega] at this
      exact this)
    have ec : cs = .bool x :: cs.drop 1 := by
      conv => lhs; rw [← List.take_append_drop 1 cs, e]
      rfl
    exact ⟨x :: l, by rw [ec, g1]; rfl, by simp [g2]⟩
theorem arg34 {cells : List AV} (h : Sh Tryz.prog 34 cells) : ∃ a l, argOf Tryz.prog 34 cells = a ∧ BoV a l ∧ l.length < 9223372036854775808 := by
  rcases h.slice_inv Tryz.underlying34 with rfl | ⟨n, cs, rfl, h1, h2, h3⟩
  · exact ⟨_, [], by unfold argOf; rw [Tryz.underlying34]; rfl, .inl ⟨rfl, rfl⟩, by decide⟩
  · rw [cells4] at h2 h3 ⊢
    obtain ⟨l, g1, g2⟩ := bools_of_cells n cs h2 h3
    have hm := maxL
    exact ⟨.sl false n 1 cs, l, by unfold argOf; rw [Tryz.underlying34]; rfl, .inr (by rw [g1, g2]), by omega⟩
theorem arg4 {cells : List AV} (h : Sh Tryz.prog 4 cells) : ∃ b, argOf Tryz.prog 4 cells = .bool b := by
  obtain ⟨b, rfl⟩ := h.bool_inv Tryz.underlying4
  exact ⟨b, by unfold argOf; rw [Tryz.underlying4]; rfl⟩
theorem arg5 {cells : List AV} (h : Sh Tryz.prog 5 cells) : ∃ c : UInt8, argOf Tryz.prog 5 cells = .int .u8 c.toNat := by
  obtain ⟨n, rfl, h1, h2⟩ := h.int_inv Tryz.underlying5
  have m1 : IntKind.u8.min = 0 := by kernel_rfl
  have m2 : IntKind.u8.max = 255 := by kernel_rfl
  refine ⟨UInt8.ofNat n.toNat, ?_⟩
  have e : ((UInt8.ofNat n.toNat).toNat : Int) = n := by
    rw [UInt8.toNat_ofNat']
    have : n.toNat % 2 ^ 8 = n.toNat := Nat.mod_eq_of_lt (by omega)
    rw [this]
    omega
  rw [e]
  unfold argOf
  rw [Tryz.underlying5]
  rfl
theorem arg29a {cells : List AV} (h : Sh Tryz.prog 29 cells) : ∃ (r : Rsp) (fs bd : AV), argOf Tryz.prog 29 cells = .agg [.int .i64 r.1, fs, bd] ∧ FV fs r.2.1 ∧ BV bd r.2.2 ∧ ArgR r := by
  obtain ⟨r, fs, bd, rfl, h1, h2, h3⟩ := arg29 h
  exact ⟨r, fs, bd, by unfold argOf; rw [Tryz.underlying29], h1, h2, h3⟩
theorem serialBytes_law (m : Int) (xs : List AV) (h : Shs Tryz.prog [22, 4] xs) : @C (@T (sitB m)) 3 xs [] = some (.bool true, []) := by
  obtain ⟨c0, t0, rfl, h0, h⟩ := h.cons_inv
  obtain ⟨c1, t1, rfl, h1, h⟩ := h.cons_inv
  obtain rfl := h.nil_inv
  obtain ⟨a, L, e0, g0, g1, g2⟩ := arg22 h0
  obtain ⟨b, e1⟩ := arg4 h1
  rw [e0, e1]
  exact @serialBytes (sitB m) rfl a L g0 g1 g2 b
theorem serialInverse_law (m : Int) (xs : List AV) (h : Shs Tryz.prog [22, 34] xs) : @C (@T (sitB m)) 4 xs [] = some (.bool true, []) := by
  obtain ⟨c0, t0, rfl, h0, h⟩ := h.cons_inv
  obtain ⟨c1, t1, rfl, h1, h⟩ := h.cons_inv
  obtain rfl := h.nil_inv
  obtain ⟨a, L, e0, g0, g1, g2⟩ := arg22 h0
  obtain ⟨b, l, e1, g3, g4⟩ := arg34 h1
  rw [e0, e1]
  exact @serialInverse (sitB m) rfl a L g0 g1 g2 b l g3 g4
theorem serialSplits_law (m : Int) (xs : List AV) (h : Shs Tryz.prog [27, 34] xs) : @C (@T (sitB m)) 5 xs [] = some (.bool true, []) := by
  obtain ⟨c0, t0, rfl, h0, h⟩ := h.cons_inv
  obtain ⟨c1, t1, rfl, h1, h⟩ := h.cons_inv
  obtain rfl := h.nil_inv
  obtain ⟨a, s, e0, g0, g1⟩ := arg27 h0
  obtain ⟨b, l, e1, g3, g4⟩ := arg34 h1
  rw [e0, e1]
  exact @serialSplits (sitB m) rfl a s g0 g1 b l g3 g4
theorem serialCuts_law (m : Int) (xs : List AV) (h : Shs Tryz.prog [29, 5] xs) : @C (@T (sitB m)) 6 xs [] = some (.bool true, []) := by
  obtain ⟨c0, t0, rfl, h0, h⟩ := h.cons_inv
  obtain ⟨c1, t1, rfl, h1, h⟩ := h.cons_inv
  obtain rfl := h.nil_inv
  obtain ⟨r, fs, bd, e0, g0, g1, g2⟩ := arg29a h0
  obtain ⟨c, e1⟩ := arg5 h1
  rw [e0, e1]
  exact @serialCuts (sitB m) rfl r fs bd g0 g1 g2 c
end Go.Proofs.YtgjgcjhmaibblaaGreatDoor
