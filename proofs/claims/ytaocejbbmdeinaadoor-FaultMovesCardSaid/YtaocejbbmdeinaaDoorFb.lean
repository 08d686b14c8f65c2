/- How many decimal digits a number has. No condition. -/
import Derived.Test.YtaocejbbmdeinaaDoorFa
namespace Go.Eng.S
open Go Go.Eng
set_option maxRecDepth 20000
def powT : List AV := (List.range 20).map fun k => .int .u64 ((10 ^ k : Nat) : Int)
theorem g_pow : T.glob 1 = some powT := by kernel_rfl
theorem powT_at (p : Nat) (h : p < 20) : powT.drop p = .int .u64 ((10 ^ p : Nat) : Int) :: powT.drop (p + 1) := by
  have hl : p < powT.length := by simpa [powT] using h
  rw [List.drop_eq_getElem_cons hl]
  simp [powT]
theorem powT_len : powT.length = 20 := rfl
theorem shr18 (x : Nat) : shiftOp .shr .i64 (x : Int) 18 = some (.int .i64 ((x / 262144 : Nat) : Int)) := by
  unfold shiftOp
  rw [if_neg (by omega)]
  have h : min (18 : Int).toNat IntKind.i64.bits = 18 := by decide
  simp only [h]
  rw [Int.fdiv_eq_ediv_of_nonneg _ (by exact Int.pow_nonneg (by decide))]
  norm_cast
theorem l10_ok (n : Nat) (hn : n ≤ 64) (H : Heap) : C T 44 [.int .i64 n] H = some (.int .i64 ((n * 78913 / 262144 : Nat) : Int), H) := by
  refine anyH fd44 rfl rfl ?_ H
  rw [q44]
  have e : ((n : Int) * 78913) = ((n * 78913 : Nat) : Int) := by omega
  have h := shr18 (n * 78913)
  rw [← e] at h
  simp (disch := omega) [d44, h]
theorem b2_ok (b : Bool) (H : Heap) : C T 46 [.bool b] H = some (.int .i64 (bif b then 1 else 0), H) := by
  refine anyH fd46 rfl rfl ?_ H
  rw [q46]
  cases b <;> simp [d46]
theorem log_all : (List.range 64).all (fun l => let p := (l + 1) * 78913 / 262144; decide (p < 20) && decide (2 ^ (l + 1) ≤ 10 ^ (p + 1)) && (decide (p = 0) || decide (10 ^ (p - 1) ≤ 2 ^ l))) = true := by kernel_rfl
theorem nd_ok (u : Nat) (hu : u < 18446744073709551616) (h0 : 0 < u) : ∃ k, u < 10 ^ (k + 1) ∧ (k = 0 ∨ 10 ^ k ≤ u) ∧ k + 1 ≤ 20 ∧ ∀ H, C T 41 [.int .u64 u] H = some (.int .i64 ((k + 1 : Nat) : Int), H) := by
  have hl : Nat.log2 u < 64 := (Nat.log2_lt (by omega)).2 hu
  have h := List.all_eq_true.1 log_all (Nat.log2 u) (List.mem_range.2 hl)
  have h1 := Nat.log2_self_le (n := u) (by omega)
  have h2 := Nat.lt_log2_self (n := u)
  have c1 := fun H => len64_ok u hu h0 H
  have c2 := fun H => l10_ok (Nat.log2 u + 1) (by omega) H
  generalize Nat.log2 u = l at *
  generalize hp : (l + 1) * 78913 / 262144 = p at *
  simp only [Bool.and_eq_true, Bool.or_eq_true, decide_eq_true_eq] at h
  obtain ⟨⟨h3, h4⟩, h5⟩ := h
  have hd := powT_at p h3
  have hcall : ∀ H, C T 41 [.int .u64 u] H = some (.int .i64 ((p + (if 10 ^ p ≤ u then 1 else 0) : Nat) : Int), H) := by
    intro H
    refine anyH fd41 rfl rfl ?_ H
    rw [q41]
    push_cast at c1 c2
    generalize hq : 10 ^ p = q at *
    have hqi : (10 : Int) ^ p = (q : Int) := by rw [← hq]; push_cast; rfl
    by_cases hc : q ≤ u
    · simp (disch := omega) [d41, c1, c2, g_pow, hd, hc, b2_ok, hqi]
    · simp (disch := omega) [d41, c1, c2, g_pow, hd, hc, b2_ok, hqi]
  by_cases hc : 10 ^ p ≤ u
  · refine ⟨p, by omega, .inr hc, by omega, fun H => ?_⟩
    rw [hcall, if_pos hc]
  · have hp0 : p ≠ 0 := by intro h; subst h; simp at hc; omega
    refine ⟨p - 1, by rw [Nat.sub_add_cancel (by omega)]; omega, .inr (by omega), by omega, fun H => ?_⟩
    rw [hcall, if_neg hc, Nat.sub_add_cancel (by omega)]
    rfl
end Go.Eng.S
