/- The reference's classes and digits. No condition. -/
import Derived.Test.YtdffpjbjpfolfaaGreatDoorGa
namespace Go.Eng.S
open Go Go.Eng
theorem letters_ok (H : Heap) : C T 36 [] H = some (.str lets, H) := anyH fd36 rfl rfl (C_of 9 (by kernel_rfl)) H
theorem class_ok (c : UInt8) (k : Nat) (hk : k ≤ 5) (H : Heap) : C T 18 [.int .u8 c.toNat, .int .i64 k] H = some (.bool (clsB k c), H) := by
  refine anyH fd18 rfl rfl ?_ H
  rw [q18]
  have h1 := in_ok c lets (by decide) []
  have h2 := in_ok c digs (by decide) []
  have h3 := letters_ok []
  have t2 := in_ok c [33, 35, 36, 37, 38, 39, 42, 43, 45, 46, 94, 95, 96, 124, 126] (by decide) []
  have t3 := in_ok c [45, 46, 95, 126] (by decide) []
  have t4 := in_ok c [45, 46, 95, 126, 33, 36, 38, 39, 40, 41, 42, 43, 44, 59, 61, 58, 64] (by decide) []
  have e : k = 0 ∨ k = 1 ∨ k = 2 ∨ k = 3 ∨ k = 4 ∨ k = 5 := by omega
  generalize g1 : decide (c ∈ lets) = b1 at h1
  generalize g2 : decide (c ∈ digs) = b2 at h2
  generalize g3 : decide (c ∈ ([33, 35, 36, 37, 38, 39, 42, 43, 45, 46, 94, 95, 96, 124, 126] : List UInt8)) = b3 at t2
  generalize g4 : decide (c ∈ ([45, 46, 95, 126] : List UInt8)) = b4 at t3
  generalize g5 : decide (c ∈ ([45, 46, 95, 126, 33, 36, 38, 39, 40, 41, 42, 43, 44, 59, 61, 58, 64] : List UInt8)) = b5 at t4
  rcases e with rfl | rfl | rfl | rfl | rfl | rfl
  · have hg : clsB 0 c = b1 := g1
    rw [hg]
    simp [d18, h1, h2, h3]
  · have hg : clsB 1 c = b2 := g2
    rw [hg]
    simp [d18, h1, h2, h3]
  · have hg : clsB 2 c = (b1 || b2 || b3) := by rw [← g1, ← g2, ← g3]; rfl
    rw [hg]
    clear g1 g2 g3 g4 g5
    cases b1 <;> cases b2 <;> simp [d18, h1, h2, h3, t2]
  · have hg : clsB 3 c = (b1 || b2 || b4) := by rw [← g1, ← g2, ← g4]; rfl
    rw [hg]
    clear g1 g2 g3 g4 g5
    cases b1 <;> cases b2 <;> simp [d18, h1, h2, h3, t3]
  · have hg : clsB 4 c = (b1 || b2 || b5) := by rw [← g1, ← g2, ← g5]; rfl
    rw [hg]
    clear g1 g2 g3 g4 g5
    cases b1 <;> cases b2 <;> simp [d18, h1, h2, h3, t4]
  · have hg : clsB 5 c = (decide (c.toNat = 9) || (decide (32 ≤ c.toNat) && decide (c.toNat ≠ 127))) := rfl
    rw [hg]
    clear g1 g2 g3 g4 g5 t2 t3 t4 hg
    by_cases i1 : c = 9
    · subst i1
      simp at h1 h2
      simp [d18, h1, h2, h3]
    by_cases i3 : c = 127
    · subst i3
      simp at h1 h2
      simp [d18, h1, h2, h3]
    have j1 : ¬ c.toNat = 9 := fun h => i1 (UInt8.toNat_inj.1 h)
    have j3 : ¬ c.toNat = 127 := fun h => i3 (UInt8.toNat_inj.1 h)
    have k1 : ((c.toNat : Int) == 9) = false := by rw [beq_eq_false_iff_ne]; omega
    have k3 : ((c.toNat : Int) != 127) = true := by rw [bne_iff_ne]; omega
    by_cases i2 : 32 ≤ c.toNat
    · have k2 : (32 : Int) ≤ c.toNat := by omega
      simp [d18, h1, h2, h3, j1, j3, k1, k2, k3, i2]
    · have k2 : ¬ (32 : Int) ≤ c.toNat := by omega
      simp [d18, h1, h2, h3, j1, j3, k1, k2, i2]
/-- The reference's search for a digit. -/
def hexF (D U : List UInt8) (c : UInt8) : Nat → Nat → Int
  | 0, _ => -1
  | k + 1, i => if D[i]? = some c ∨ U[i]? = some c then i else hexF D U c k (i + 1)
abbrev hexL : List UInt8 := [48, 49, 50, 51, 52, 53, 54, 55, 56, 57, 97, 98, 99, 100, 101, 102]
abbrev hexU : List UInt8 := [48, 49, 50, 51, 52, 53, 54, 55, 56, 57, 65, 66, 67, 68, 69, 70]
theorem hexF_eq (c : UInt8) : hexF hexL hexU c 16 0 = hexI c.toNat := by
  have := all256 (p := fun n => decide (hexF hexL hexU (UInt8.ofNat n) 16 0 = hexI n)) (by decide +kernel) c
  simpa using this
theorem rhex_loop (D U : List UInt8) (hD : D.length = 16) (hU : U.length = 16) (c : UInt8) : ∀ (k i : Nat), i + k = 16 →
    ∃ e', XL T [0, 3, 4, 5] L26_0 [(0, .int .u8 c.toNat), (3, .str D), (4, .str U), (5, .int .i64 i)] [] =
      some (if hexF D U c k i < 0 then .exit 0 else .ret, e', []) ∧ (0 ≤ hexF D U c k i → e'.get 2 = .int .i64 (hexF D U c k i))
  | 0, i, hk => by
    rw [XL_eq]
    simp [L26_0, hexF, show ¬ (i : Int) < 16 by omega]
  | k + 1, i, hk => by
    have hlt : i < D.length := by omega
    have hlt2 : i < U.length := by omega
    have hlt3 : (i : Int) < 16 := by omega
    have ih := rhex_loop D U hD hU c k (i + 1) (by omega)
    push_cast at ih
    rw [XL_eq, hexF, List.getElem?_eq_getElem hlt, List.getElem?_eq_getElem hlt2]
    generalize XL T [0, 3, 4, 5] L26_0 = lp at *
    generalize hexF D U c k (i + 1) = R at *
    by_cases h1 : D[i] = c
    · simp (disch := omega) [L26_0, hlt3, h1]
    by_cases h2 : U[i] = c
    · simp (disch := omega) [L26_0, hlt3, u8_beq, h1, h2]
    · simp (disch := omega) [L26_0, hlt3, u8_beq, h1, h2, wr64]
      exact ih
theorem rhex_ok (c : UInt8) (H : Heap) : C T 26 [.int .u8 c.toNat] H = some (.int .i64 (hexI c.toNat), H) := by
  refine anyH fd26 rfl rfl ?_ H
  rw [q26]
  obtain ⟨e', h1, h2⟩ := rhex_loop hexL hexU rfl rfl c 16 0 rfl
  rw [hexF_eq] at h1 h2
  simp only [Int.natCast_zero] at h1
  have h3 := hexI_lt c.toNat
  generalize hexI c.toNat = x at *
  by_cases hx : x < 0
  · have : x = -1 := by omega
    subst this
    simp [d26, h1]
  · have h2' := h2 (by omega)
    rw [if_neg hx] at h1
    simp [d26, h1, h2']

end Go.Eng.S
