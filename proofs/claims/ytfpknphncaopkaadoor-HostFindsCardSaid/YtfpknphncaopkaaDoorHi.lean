/- Texts of numbers: the code's and the reference's. No condition. -/
import Derived.Test.YtfpknphncaopkaaDoorPd
namespace Go.Eng.S
open Go Go.Eng
def dgt (n : Nat) : UInt8 := UInt8.ofNat (48 + n % 10)
theorem dgt_nat (n : Nat) : (dgt n).toNat = 48 + n % 10 := by
  unfold dgt
  have : n % 10 < 10 := Nat.mod_lt _ (by decide)
  simp
  omega
/-- The decimal text of a number: 'k' bounds its digits. -/
def decT : Nat → Nat → List UInt8
  | 0, _ => []
  | k + 1, n => if n < 10 then [dgt n] else decT k (n / 10) ++ [dgt n]
theorem decT_len : ∀ (k n : Nat), (decT k n).length ≤ k
  | 0, _ => Nat.le_refl _
  | k + 1, n => by
    unfold decT
    split
    · simp
    · simp [decT_len k (n / 10)]
def cell8 (l : List UInt8) : List AV := bcells l
theorem dtext_loop : ∀ (k : Nat) (n : Nat) (A S : List UInt8), A.length = k → A.length + S.length = 20 → n < 10 ^ k → n < 9223372036854775808 → 0 < k →
    ∃ e' A', XL T [0, 3, 4] L30_0 [(0, .int .i64 n), (3, .ptr 0 0 0), (4, .int .i64 k)] [⟨bcells (A ++ S), 0, true⟩] = some (.ret, e', [⟨bcells A', 0, true⟩]) ∧ e'.get 2 = .str (decT k n ++ S)
  | 0, _, _, _, _, _, _, _, h0 => absurd h0 (Nat.lt_irrefl 0)
  | k + 1, n, A, S, hA, hS, hn, hn63, _ => by
    obtain ⟨B, c, rfl⟩ : ∃ B c, A = B ++ [c] := ⟨A.dropLast, A.getLast (by intro h; subst h; simp at hA), (List.dropLast_concat_getLast _).symm⟩
    have hB : B.length = k := by simpa using hA
    have hst : hset [⟨bcells (B ++ [c] ++ S), 0, true⟩] 0 k 0 [.int .u8 (dgt n).toNat] = some [⟨bcells (B ++ dgt n :: S), 0, true⟩] := by
      have hl : k < (B ++ [c] ++ S).length := by simp; omega
      have := hset_b (B ++ [c] ++ S) k 0 (dgt n) hl
      rw [this]
      congr 4
      rw [List.append_assoc, List.set_append_right _ _ (by omega)]
      simp [hB]
    have hm : (n : Int).tmod 10 = ((n % 10 : Nat) : Int) := rfl
    have hd : (n : Int).tdiv 10 = ((n / 10 : Nat) : Int) := rfl
    have hlt : n % 10 < 10 := Nat.mod_lt _ (by decide)
    have hdg : (dgt n).toNat = 48 + n % 10 := dgt_nat n
    rw [hdg] at hst
    rw [show B ++ [c] ++ S = B ++ c :: S by simp] at hst ⊢
    push_cast at hst
    rw [XL_eq]
    have hone : decT (k + 1) n = if n < 10 then [dgt n] else decT k (n / 10) ++ [dgt n] := rfl
    rw [hone]
    by_cases h10 : n < 10
    · have h0 : n / 10 = 0 := by omega
      have hgt : hget [⟨bcells (B ++ dgt n :: S), 0, true⟩] 0 k (20 - k) 0 = some (bcells (dgt n :: S)) := by
        have e1 : (bcells (B ++ dgt n :: S)).drop k = bcells (dgt n :: S) := by rw [bcells_app, ← hB, ← bcells_len B]; exact List.drop_left
        have e2 : (bcells (dgt n :: S)).take (20 - k) = bcells (dgt n :: S) := List.take_of_length_le (by rw [bcells_len]; simp at hS ⊢; omega)
        simp [hget, e1, e2, bcells_len]
        simp at hS
        omega
      rw [if_pos h10]
      have hk20 : k < 20 := by simp at hS; omega
      have hfull : hget [⟨bcells (B ++ dgt n :: S), 0, true⟩] 0 0 20 0 = some (bcells (B ++ dgt n :: S)) := by
        have e2 : (bcells (B ++ dgt n :: S)).take 20 = bcells (B ++ dgt n :: S) := List.take_of_length_le (by rw [bcells_len]; simp at hS ⊢; omega)
        have e3 : 20 ≤ B.length + (S.length + 1) := by simp at hS; omega
        simp [hget, e2, bcells_len, e3]
      simp (disch := omega) [L30_0, hm, hd, h0, hst, hgt, hfull, bytesOf_bcells]
      exact ⟨_, ⟨rfl, _, rfl⟩, rfl⟩
    · have h0 : n / 10 ≠ 0 := by omega
      have hk0 : 0 < k := by
        cases k with
        | zero => simp at hn; omega
        | succ k => omega
      obtain ⟨e', A', ih1, ih2⟩ := dtext_loop k (n / 10) B (dgt n :: S) hB (by simp at hS ⊢; omega) (by rw [Nat.pow_succ] at hn; omega) (by omega) hk0
      have hk20 : k < 20 := by simp at hS; omega
      generalize XL T [0, 3, 4] L30_0 = lp at *
      rw [if_neg h10]
      push_cast at ih1
      simp (disch := omega) [L30_0, hm, hd, hst]
      exact ⟨e', ⟨A', ih1⟩, by simpa using ih2⟩
theorem dtext_ok (n : Nat) (hn : n < 9223372036854775808) (H : Heap) : C T 30 [.int .i64 n] H = some (.str (decT 20 n), H) := by
  refine anyH fd30 rfl rfl ?_ H
  rw [q30]
  obtain ⟨e', A', g1, g2⟩ := dtext_loop 20 n [0, 0, 0, 0, 0, 0, 0, 0, 0, 0, 0, 0, 0, 0, 0, 0, 0, 0, 0, 0] [] rfl rfl (by omega) hn (by decide)
  simp [bcells] at g1
  simp [d30, g1, g2]
end Go.Eng.S
