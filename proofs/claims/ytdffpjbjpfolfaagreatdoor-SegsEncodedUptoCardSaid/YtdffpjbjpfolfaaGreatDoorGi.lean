/- Runes are looked for; characters among others. No condition. -/
import Derived.Test.YtdffpjbjpfolfaaGreatDoorGc
namespace Go.Eng.S
open Go Go.Eng
/-- Slash, backslash, zero. -/
abbrev SL : List UInt8 := [47, 92, 0]
def isSL (c : UInt8) : Bool := c == 47 || c == 92 || c == 0
theorem isSL_hi {c : UInt8} (h : 128 ≤ c.toNat) : isSL c = false := by
  have := all256 (p := fun n => decide (n < 128) || !isSL (UInt8.ofNat n)) (by decide +kernel) c
  rw [UInt8.ofNat_toNat] at this
  simp at this
  rcases this with h1 | h1
  · omega
  · exact h1
theorem valid_ok (r : Int) (H : Heap) : C T 85 [.int .i32 r] H = some (.bool (Utf8.valid r), H) := by
  refine anyH fd85 rfl rfl ?_ H
  rw [q85]
  unfold Utf8.valid
  by_cases h1 : 0 ≤ r <;> by_cases h2 : r < 55296 <;> by_cases h3 : 57343 < r <;> by_cases h4 : r ≤ 1114111
  all_goals
    have e : decide (0xE000 ≤ r) = decide (57343 < r) := by rw [Bool.eq_iff_iff]; simp; omega
    first
      | omega
      | simp (disch := omega) [d85, h1, h2, h3, h4, e]
/-- What stands last in a rune's text. -/
theorem enc_last (r : Int) (h : 128 ≤ r) : ∃ l : List UInt8, (Utf8.encode r).data.toList = l ∧ 2 ≤ l.length ∧ l.length ≤ 4 ∧ ∃ c, l[l.length - 1]? = some c ∧ 128 ≤ c.toNat := by
  unfold Utf8.encode
  have key : ∀ c : Nat, 128 ≤ c → ∃ l : List UInt8, (if c < 0x80 then (⟨#[UInt8.ofNat c]⟩ : ByteArray)
      else if c < 0x800 then ⟨#[UInt8.ofNat (0xC0 + c / 64), UInt8.ofNat (0x80 + c % 64)]⟩
      else if c < 0x10000 then ⟨#[UInt8.ofNat (0xE0 + c / 4096), UInt8.ofNat (0x80 + c / 64 % 64), UInt8.ofNat (0x80 + c % 64)]⟩
      else ⟨#[UInt8.ofNat (0xF0 + c / 262144), UInt8.ofNat (0x80 + c / 4096 % 64), UInt8.ofNat (0x80 + c / 64 % 64), UInt8.ofNat (0x80 + c % 64)]⟩).data.toList = l ∧ 2 ≤ l.length ∧ l.length ≤ 4 ∧ ∃ c, l[l.length - 1]? = some c ∧ 128 ≤ c.toNat := by
    intro c hc
    have hlast : 128 ≤ (UInt8.ofNat (0x80 + c % 64)).toNat := by simp; omega
    rw [if_neg (by omega)]
    split
    · exact ⟨_, rfl, by simp, by simp, _, rfl, hlast⟩
    · split
      · exact ⟨_, rfl, by simp, by simp, _, rfl, hlast⟩
      · exact ⟨_, rfl, by simp, by simp, _, rfl, hlast⟩
  by_cases hv : Utf8.valid r = true
  · simp only [hv, if_true]
    exact key _ (by omega)
  · simp only [if_neg hv]
    exact key _ (by decide)
theorem idxB_ok (s : List UInt8) (c : UInt8) (H : Heap) : C T 84 [.str s, .int .u8 c.toNat] H = some (.int .i64 (if c ∈ s then (cutI c s : Int) else -1), H) := by
  refine anyH fd84 rfl rfl ?_ H
  rw [q84]
  have h := idxS_ok s c []
  simp [d84, h]
/-- A rune that is looked for among slash, backslash, zero. -/
theorem irune_ok (r : Int) (h0 : 0 ≤ r) (h2 : r ≤ 1114111) (H : Heap) : ∃ n, C T 68 [.str SL, .int .i32 r] H = some (.int .i64 n, H) ∧ (0 ≤ n ↔ r < 128 ∧ isSL (UInt8.ofNat r.toNat) = true) := by
  suffices h : ∃ n, C T 68 [.str SL, .int .i32 r] [] = some (.int .i64 n, []) ∧ (0 ≤ n ↔ r < 128 ∧ isSL (UInt8.ofNat r.toNat) = true) by
    obtain ⟨n, h1, h2⟩ := h
    exact ⟨n, anyH fd68 rfl rfl h1 H, h2⟩
  by_cases h1 : r < 128
  · obtain ⟨m, rfl⟩ : ∃ m : Nat, r = m := ⟨r.toNat, by omega⟩
    have hc := idxB_ok SL (UInt8.ofNat m) []
    have hm : (UInt8.ofNat m).toNat = m := by simp; omega
    rw [hm] at hc
    refine ⟨if UInt8.ofNat m ∈ SL then (cutI (UInt8.ofNat m) SL : Int) else -1, ?_, ?_⟩
    · rw [q68]
      simp (disch := omega) [d68, hc, -List.mem_cons]
    · simp only [Int.toNat_natCast, h1, true_and]
      have hmem : UInt8.ofNat m ∈ SL ↔ isSL (UInt8.ofNat m) = true := by simp [isSL, or_assoc]
      rw [← hmem]
      split
      · rename_i hh; simp [hh]
      · rename_i hh; simp [hh]
  · refine ⟨-1, ?_, by simp [h1]⟩
    by_cases h3 : r = 65533
    · subst h3
      exact C_of 20 (by kernel_rfl)
    · rw [q68]
      have hv := valid_ok r []
      have e3 : (r == 65533) = false := by simpa using h3
      cases hb : Utf8.valid r with
      | false =>
        rw [hb] at hv
        simp (disch := omega) [d68, e3, hv]
      | true =>
        rw [hb] at hv
        obtain ⟨l, g1, g2, g3, c, g4, g5⟩ := enc_last r (by omega)
        have c1 : ¬ c = 47 := by rintro rfl; simp at g5
        have c2 : ¬ c = 92 := by rintro rfl; simp at g5
        have c3 : ¬ c = 0 := by rintro rfl; simp at g5
        have n1 : ((47 : Int) != (c.toNat : Int)) = true := by simp; omega
        have n2 : ((92 : Int) != (c.toNat : Int)) = true := by simp; omega
        have n3 : ((0 : Int) != (c.toNat : Int)) = true := by simp; omega
        have i0 := idxB_ok [92, 0] c []
        have i1 := idxB_ok [0] c []
        have i2 := idxB_ok [] c []
        simp only [List.mem_cons, List.not_mem_nil, c2, c3, or_false, if_false] at i0 i1 i2
        have hx : ∃ e', XL T [0, 7, 8, 9] L68_3 [(0, .str SL), (7, .str l), (8, .int .i64 ((l.length : Int) - 1)), (9, .int .i64 ((l.length : Int) - 1))] [] = some (if l.length = 4 then .exit 1 else .ret, e', []) ∧ (l.length ≠ 4 → e'.get 4 = .int .i64 (-1)) := by
          rw [XL_eq]
          match l, g2, g3, g4 with
          | [x, y], _, _, g4 =>
            simp at g4
            subst g4
            simp (disch := omega) [L68_3, n2, i1]
          | [x, z, y], _, _, g4 =>
            simp at g4
            subst g4
            simp (disch := omega) [L68_3, n3, i2]
          | [x, z, w, y], _, _, g4 =>
            simp (disch := omega) [L68_3]
        obtain ⟨e', x1, x2⟩ := hx
        by_cases hl : l.length = 4
        · rw [if_pos hl] at x1
          simp (disch := omega) [d68, e3, hv, g1, x1]
        · rw [if_neg hl] at x1
          simp (disch := omega) [d68, e3, hv, g1, x1, x2 hl]
end Go.Eng.S
