/- Prefixes. No condition. -/
import Derived.Test.YtfpknphncaopkaaDoorPb
namespace Go.Eng.S
open Go Go.Eng
def hasP (p s : List UInt8) : Bool := decide (p.length ≤ s.length) && (s.take p.length == p)
theorem hasP_iff {p s : List UInt8} : hasP p s = true ↔ ∃ r, s = p ++ r := by
  unfold hasP
  simp only [Bool.and_eq_true, decide_eq_true_eq, beq_iff_eq]
  constructor
  · rintro ⟨_, h⟩; exact ⟨s.drop p.length, by conv => lhs; rw [← List.take_append_drop p.length s, h]⟩
  · rintro ⟨r, rfl⟩; simp
theorem prefix_ok (s p : List UInt8) (H : Heap) : C T 52 [.str s, .str p] H = some (.bool (hasP p s), H) := by
  refine anyH fd52 rfl rfl ?_ H
  rw [q52]
  unfold hasP
  by_cases h1 : p.length ≤ s.length
  · have e : (p.length : Int) ≤ s.length := by omega
    simp [d52, h1, e]
  · have e : ¬ (p.length : Int) ≤ s.length := by omega
    simp [d52, h1, e]
theorem sprefix_ok (s p : List UInt8) (H : Heap) : C T 42 [.str s, .str p] H = some (.bool (hasP p s), H) := by
  refine anyH fd42 rfl rfl ?_ H
  rw [q42]
  simp [d42, prefix_ok]
theorem cut_ok (s p : List UInt8) (H : Heap) : C T 51 [.str s, .str p] H = some (.tup (if hasP p s = true then [.str (s.drop p.length), .bool true] else [.str s, .bool false]), H) := by
  refine anyH fd51 rfl rfl ?_ H
  rw [q51]
  have h := prefix_ok s p []
  cases hc : hasP p s with
  | true =>
    rw [hc] at h
    have h3 : (p.length : Int) ≤ s.length := by unfold hasP at hc; simp at hc; omega
    simp [d51, h, h3]
  | false =>
    rw [hc] at h
    simp [d51, h]
theorem scut_ok (s p : List UInt8) (H : Heap) : C T 41 [.str s, .str p] H = some (.tup (if hasP p s = true then [.str (s.drop p.length), .bool true] else [.str s, .bool false]), H) := by
  refine anyH fd41 rfl rfl ?_ H
  rw [q41]
  have h := cut_ok s p []
  cases hc : hasP p s <;> rw [hc] at h <;> simp at h <;> simp [d41, h]
end Go.Eng.S
