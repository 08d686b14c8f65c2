/- Bytewise functions. No condition. -/
import Derived.Test.YtpdkdkdcmnipfaaGreatDoorTp
import Derived.Test.YtpdkdkdcmnipfaaGreatDoorEg
namespace Go.Eng.S
open Go Go.Eng
theorem within_ok (c a b : UInt8) (H : Heap) : C T 76 [.int .u8 c.toNat, .int .u8 a.toNat, .int .u8 b.toNat] H = some (.bool (decide (a.toNat ≤ c.toNat) && decide (c.toNat ≤ b.toNat)), H) := by
  refine anyH fd76 rfl rfl ?_ H
  rw [q76]
  by_cases h1 : a.toNat ≤ c.toNat <;> simp [d76, h1]

theorem in_loop (c : UInt8) (s : List UInt8) (hs : s.length < LIM) : ∀ (k i : Nat), i + k = s.length →
    ∃ e', XL T [0, 1, 5] L52_0 [(0, .int .u8 c.toNat), (1, .str s), (5, .int .i64 i)] [] = some (if c ∈ s.drop i then .ret else .exit 0, e', []) ∧ (c ∈ s.drop i → e'.get 4 = .bool true)
  | 0, i, hk => by
    have hd : s.drop i = [] := List.drop_eq_nil_of_le (by omega)
    rw [XL_eq]
    simp [L52_0, hd, show ¬ i < s.length by omega]
  | k + 1, i, hk => by
    unfold LIM at hs
    have hlt : i < s.length := by omega
    have hd : s.drop i = s[i] :: s.drop (i + 1) := List.drop_eq_getElem_cons hlt
    have ih := in_loop c s (by unfold LIM; omega) k (i + 1) (by omega)
    push_cast at ih
    rw [hd, XL_eq]
    generalize XL T [0, 1, 5] L52_0 = lp at *
    generalize s.drop (i + 1) = R at *
    by_cases hc : s[i] = c
    · simp [L52_0, hlt, hc]
    · have hc' : ((s[i].toNat : Int) == (c.toNat : Int)) = false := by
        rw [beq_eq_false_iff_ne]; intro h; exact hc (UInt8.toNat_inj.1 (by omega))
      simp (disch := omega) [L52_0, hlt, hc', wr64, Ne.symm hc]
      simpa using ih

theorem in_ok (c : UInt8) (s : List UInt8) (hs : s.length < LIM) (H : Heap) : C T 52 [.int .u8 c.toNat, .str s] H = some (.bool (decide (c ∈ s)), H) := by
  refine anyH fd52 rfl rfl ?_ H
  rw [q52]
  obtain ⟨e', h1, h2⟩ := in_loop c s hs s.length 0 (by omega)
  simp only [List.drop_zero, Int.natCast_zero] at h1 h2
  by_cases hc : c ∈ s
  · simp only [hc, if_true] at h1
    simp [d52, h1, h2 hc, hc]
  · simp only [hc, if_false] at h1
    simp [d52, h1, hc]

abbrev lets : List UInt8 := [65, 66, 67, 68, 69, 70, 71, 72, 73, 74, 75, 76, 77, 78, 79, 80, 81, 82, 83, 84, 85, 86, 87, 88, 89, 90, 97, 98, 99, 100, 101, 102, 103, 104, 105, 106, 107, 108, 109, 110, 111, 112, 113, 114, 115, 116, 117, 118, 119, 120, 121, 122]
abbrev digs : List UInt8 := [48, 49, 50, 51, 52, 53, 54, 55, 56, 57]
/-- The reference's classes. -/
def clsB (k : Nat) (c : UInt8) : Bool := match k with
  | 0 => decide (c ∈ lets)
  | 1 => decide (c ∈ digs)
  | 2 => decide (c ∈ lets) || decide (c ∈ digs) || decide (c ∈ ([33, 35, 36, 37, 38, 39, 42, 43, 45, 46, 94, 95, 96, 124, 126] : List UInt8))
  | 3 => decide (c ∈ lets) || decide (c ∈ digs) || decide (c ∈ ([45, 46, 95, 126] : List UInt8))
  | 4 => decide (c ∈ lets) || decide (c ∈ digs) || decide (c ∈ ([45, 46, 95, 126, 33, 36, 38, 39, 40, 41, 42, 43, 44, 59, 61, 58, 64] : List UInt8))
  | _ => decide (c.toNat = 9) || (decide (32 ≤ c.toNat) && decide (c.toNat ≠ 127))
theorem letters_ok (H : Heap) : C T 53 [] H = some (.str lets, H) := anyH fd53 rfl rfl (C_of 9 (by kernel_rfl)) H
theorem class_ok (c : UInt8) (k : Nat) (hk : k ≤ 5) (H : Heap) : C T 39 [.int .u8 c.toNat, .int .i64 k] H = some (.bool (clsB k c), H) := by
  refine anyH fd39 rfl rfl ?_ H
  rw [q39]
  have h1 := in_ok c lets (by decide) []
  have h2 := in_ok c digs (by decide) []
  have h3 := letters_ok []
  have t2 := in_ok c [33, 35, 36, 37, 38, 39, 42, 43, 45, 46, 94, 95, 96, 124, 126] (by decide) []
  have t3 := in_ok c [45, 46, 95, 126] (by decide) []
  have t4 := in_ok c [45, 46, 95, 126, 33, 36, 38, 39, 40, 41, 42, 43, 44, 59, 61, 58, 64] (by decide) []
  have e : k = 0 ∨ k = 1 ∨ k = 2 ∨ k = 3 ∨ k = 4 ∨ k = 5 := by omega
  generalize g1 : decide (c ∈ lets) = b1 at h1
  generalize g2 : decide (c ∈ digs) = b2 at h2
  generalize g3 : decide (c ∈ ([33, 35, 36, 37, 38, 39, 42, 43, 45, 46, 94, 95, 96, 124, 126] : List UInt8)) = b3 at t2
  generalize g4 : decide (c ∈ ([45, 46, 95, 126] : List UInt8)) = b4 at t3
  generalize g5 : decide (c ∈ ([45, 46, 95, 126, 33, 36, 38, 39, 40, 41, 42, 43, 44, 59, 61, 58, 64] : List UInt8)) = b5 at t4
  rcases e with rfl | rfl | rfl | rfl | rfl | rfl
  · have hg : clsB 0 c = b1 := g1
    rw [hg]
    simp [d39, h1, h2, h3]
  · have hg : clsB 1 c = b2 := g2
    rw [hg]
    simp [d39, h1, h2, h3]
  · have hg : clsB 2 c = (b1 || b2 || b3) := by rw [← g1, ← g2, ← g3]; rfl
    rw [hg]
    clear g1 g2 g3 g4 g5
    cases b1 <;> cases b2 <;> simp [d39, h1, h2, h3, t2]
  · have hg : clsB 3 c = (b1 || b2 || b4) := by rw [← g1, ← g2, ← g4]; rfl
    rw [hg]
    clear g1 g2 g3 g4 g5
    cases b1 <;> cases b2 <;> simp [d39, h1, h2, h3, t3]
  · have hg : clsB 4 c = (b1 || b2 || b5) := by rw [← g1, ← g2, ← g5]; rfl
    rw [hg]
    clear g1 g2 g3 g4 g5
    cases b1 <;> cases b2 <;> simp [d39, h1, h2, h3, t4]
  · have hg : clsB 5 c = (decide (c.toNat = 9) || (decide (32 ≤ c.toNat) && decide (c.toNat ≠ 127))) := rfl
    rw [hg]
    clear g1 g2 g3 g4 g5 t2 t3 t4 hg
    by_cases i1 : c = 9
    · subst i1
      simp at h1 h2
      simp [d39, h1, h2, h3]
    by_cases i3 : c = 127
    · subst i3
      simp at h1 h2
      simp [d39, h1, h2, h3]
    have j1 : ¬ c.toNat = 9 := fun h => i1 (UInt8.toNat_inj.1 h)
    have j3 : ¬ c.toNat = 127 := fun h => i3 (UInt8.toNat_inj.1 h)
    have k1 : ((c.toNat : Int) == 9) = false := by rw [beq_eq_false_iff_ne]; omega
    have k3 : ((c.toNat : Int) != 127) = true := by rw [bne_iff_ne]; omega
    by_cases i2 : 32 ≤ c.toNat
    · have k2 : (32 : Int) ≤ c.toNat := by omega
      simp [d39, h1, h2, h3, j1, j3, k1, k2, k3, i2]
    · have k2 : ¬ (32 : Int) ≤ c.toNat := by omega
      simp [d39, h1, h2, h3, j1, j3, k1, k2, i2]
end Go.Eng.S
