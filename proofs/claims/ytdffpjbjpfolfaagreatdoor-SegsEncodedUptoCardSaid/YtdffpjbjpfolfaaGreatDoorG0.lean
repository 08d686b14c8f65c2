/- Bytewise functions. No condition. -/
import Derived.Test.YtdffpjbjpfolfaaGreatDoorTp
import Derived.Test.YtdffpjbjpfolfaaGreatDoorEg
namespace Go.Eng.S
open Go Go.Eng
theorem within_ok (c a b : UInt8) (H : Heap) : C T 83 [.int .u8 c.toNat, .int .u8 a.toNat, .int .u8 b.toNat] H = some (.bool (decide (a.toNat ≤ c.toNat) && decide (c.toNat ≤ b.toNat)), H) := by
  refine anyH fd83 rfl rfl ?_ H
  rw [q83]
  by_cases h1 : a.toNat ≤ c.toNat <;> simp [d83, h1]

theorem in_loop (c : UInt8) (s : List UInt8) (hs : s.length < LIM) : ∀ (k i : Nat), i + k = s.length →
    ∃ e', XL T [0, 1, 5] L28_0 [(0, .int .u8 c.toNat), (1, .str s), (5, .int .i64 i)] [] = some (if c ∈ s.drop i then .ret else .exit 0, e', []) ∧ (c ∈ s.drop i → e'.get 4 = .bool true)
  | 0, i, hk => by
    have hd : s.drop i = [] := List.drop_eq_nil_of_le (by omega)
    rw [XL_eq]
    simp [L28_0, hd, show ¬ i < s.length by omega]
  | k + 1, i, hk => by
    unfold LIM at hs
    have hlt : i < s.length := by omega
    have hd : s.drop i = s[i] :: s.drop (i + 1) := List.drop_eq_getElem_cons hlt
    have ih := in_loop c s (by unfold LIM; omega) k (i + 1) (by omega)
    push_cast at ih
    rw [hd, XL_eq]
    generalize XL T [0, 1, 5] L28_0 = lp at *
    generalize s.drop (i + 1) = R at *
    by_cases hc : s[i] = c
    · simp [L28_0, hlt, hc]
    · have hc' : ((s[i].toNat : Int) == (c.toNat : Int)) = false := by
        rw [beq_eq_false_iff_ne]; intro h; exact hc (UInt8.toNat_inj.1 (by omega))
      simp (disch := omega) [L28_0, hlt, hc', wr64, Ne.symm hc]
      simpa using ih

theorem in_ok (c : UInt8) (s : List UInt8) (hs : s.length < LIM) (H : Heap) : C T 28 [.int .u8 c.toNat, .str s] H = some (.bool (decide (c ∈ s)), H) := by
  refine anyH fd28 rfl rfl ?_ H
  rw [q28]
  obtain ⟨e', h1, h2⟩ := in_loop c s hs s.length 0 (by omega)
  simp only [List.drop_zero, Int.natCast_zero] at h1 h2
  by_cases hc : c ∈ s
  · simp only [hc, if_true] at h1
    simp [d28, h1, h2 hc, hc]
  · simp only [hc, if_false] at h1
    simp [d28, h1, hc]

abbrev lets : List UInt8 := [65, 66, 67, 68, 69, 70, 71, 72, 73, 74, 75, 76, 77, 78, 79, 80, 81, 82, 83, 84, 85, 86, 87, 88, 89, 90, 97, 98, 99, 100, 101, 102, 103, 104, 105, 106, 107, 108, 109, 110, 111, 112, 113, 114, 115, 116, 117, 118, 119, 120, 121, 122]
abbrev digs : List UInt8 := [48, 49, 50, 51, 52, 53, 54, 55, 56, 57]
/-- The reference's classes. -/
def clsB (k : Nat) (c : UInt8) : Bool := match k with
  | 0 => decide (c ∈ lets)
  | 1 => decide (c ∈ digs)
  | 2 => decide (c ∈ lets) || decide (c ∈ digs) || decide (c ∈ ([33, 35, 36, 37, 38, 39, 42, 43, 45, 46, 94, 95, 96, 124, 126] : List UInt8))
  | 3 => decide (c ∈ lets) || decide (c ∈ digs) || decide (c ∈ ([45, 46, 95, 126] : List UInt8))
  | 4 => decide (c ∈ lets) || decide (c ∈ digs) || decide (c ∈ ([45, 46, 95, 126, 33, 36, 38, 39, 40, 41, 42, 43, 44, 59, 61, 58, 64] : List UInt8))
  | _ => decide (c.toNat = 9) || (decide (32 ≤ c.toNat) && decide (c.toNat ≠ 127))
end Go.Eng.S
