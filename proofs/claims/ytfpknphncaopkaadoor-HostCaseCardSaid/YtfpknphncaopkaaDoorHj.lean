/- Decimal texts are read again; the reference's Decimal. No condition. -/
import Derived.Test.YtfpknphncaopkaaDoorHi
namespace Go.Eng.S
open Go Go.Eng
theorem decT_ne (k n : Nat) (hk : 0 < k) : decT k n ≠ [] := by
  cases k with
  | zero => omega
  | succ k => unfold decT; split <;> simp
theorem decT_small : ∀ (k j n : Nat), n < 10 ^ j → 0 < j → (decT k n).length ≤ j
  | 0, _, _, _, _ => Nat.zero_le _
  | k + 1, j, n, h, hj => by
    unfold decT
    split
    · simp; omega
    · rename_i h10
      match j, hj with
      | 1, _ => simp at h; omega
      | j + 2, _ =>
        have := decT_small k (j + 1) (n / 10) (by rw [Nat.pow_succ] at h; omega) (by omega)
        simp; omega
theorem decT_digs : ∀ (k n : Nat), ∀ c ∈ decT k n, isDg c.toNat = true
  | 0, _, c, h => by cases h
  | k + 1, n, c, h => by
    have hd : isDg (dgt n).toNat = true := by rw [dgt_nat]; simp [isDg]; omega
    unfold decT at h
    split at h
    · simp at h; subst h; exact hd
    · rcases List.mem_append.1 h with h | h
      · exact decT_digs k _ c h
      · simp at h; subst h; exact hd
theorem dv_append {b m : Int} {vv : UInt8 → Int} (c : UInt8) : ∀ (l : List UInt8) (n : Int), dv b m vv (l ++ [c]) n = match dv b m vv l n with
    | none => none
    | some x => if m < x * b + vv c then none else some (x * b + vv c)
  | [], n => by simp [dv]
  | a :: l, n => by
    rw [List.cons_append, dv, dv]
    split
    · rfl
    · exact dv_append c l _
theorem dgI_dgt (n : Nat) : dgI (dgt n) = ((n % 10 : Nat) : Int) := by
  have hd : isDg (dgt n).toNat = true := by rw [dgt_nat]; simp [isDg]; omega
  unfold dgI
  rw [if_pos hd, dgt_nat]
  omega
theorem dv_decT {m : Int} : ∀ (k n : Nat), n < 10 ^ k → 0 < k → (n : Int) ≤ m → dv 10 m dgI (decT k n) 0 = some (n : Int)
  | 0, _, _, h, _ => absurd h (Nat.lt_irrefl 0)
  | k + 1, n, hn, _, hm => by
    unfold decT
    split
    · rename_i h10
      have : n % 10 = n := Nat.mod_eq_of_lt h10
      simp only [dv, dgI_dgt, this]
      rw [if_neg (by omega)]
      congr 1; omega
    · rename_i h10
      have hk : 0 < k := by
        cases k with
        | zero => simp at hn; omega
        | succ k => omega
      rw [dv_append, dv_decT k (n / 10) (by rw [Nat.pow_succ] at hn; omega) hk (by omega)]
      simp only [dgI_dgt]
      rw [if_neg (by omega)]
      congr 1; omega
theorem decO_decT {m : Int} (k n : Nat) (hn : n < 10 ^ k) (hk : 0 < k) (hm : (n : Int) ≤ m) : decO m (decT k n) = some (n : Int) := by
  unfold decO
  rw [if_neg (decT_ne k n hk), firstBad_none.2 (decT_digs k n)]
  exact dv_decT k n hn hk hm
theorem decO_zero {m : Int} (k n : Nat) (hn : n < 10 ^ k) (hk : 0 < k) (hm : (n : Int) ≤ m) : decO m (48 :: decT k n) = some (n : Int) := by
  unfold decO
  rw [if_neg (by simp), firstBad_none.2 (by
    intro c hc
    rcases List.mem_cons.1 hc with rfl | hc
    · rfl
    · exact decT_digs k n c hc)]
  simp only [dv]
  have : dgI 48 = 0 := rfl
  rw [this, if_neg (by omega)]
  exact dv_decT k n hn hk hm
theorem decT_more : ∀ (k j n : Nat), n < 10 ^ k → 0 < k → 0 < j → n < 10 ^ j → decT k n = decT j n
  | 0, _, _, _, h, _, _ => absurd h (Nat.lt_irrefl 0)
  | _ + 1, 0, _, _, _, h, _ => absurd h (Nat.lt_irrefl 0)
  | k + 1, j + 1, n, h1, _, _, h2 => by
    unfold decT
    split
    · rfl
    · rename_i h10
      have hk : 0 < k := by
        cases k with
        | zero => simp at h1; omega
        | succ k => omega
      have hj : 0 < j := by
        cases j with
        | zero => simp at h2; omega
        | succ k => omega
      rw [decT_more k j (n / 10) (by rw [Nat.pow_succ] at h1; omega) hk hj (by rw [Nat.pow_succ] at h2; omega)]
theorem digs_at (k : Nat) (h : k < 10) : (digs.take (k + 1)).drop k = [UInt8.ofNat (48 + k)] := by
  have : ∀ k < 10, (digs.take (k + 1)).drop k = [UInt8.ofNat (48 + k)] := by decide
  exact this k h
/-- The reference's text of a number that is not negative. -/
theorem rdec_ok : ∀ (k n : Nat), n < 10 ^ k → 0 < k → n < 9223372036854775808 → ∀ H, k ≤ 20 → C T 49 [.int .i64 n] H = some (.str (decT k n), H)
  | 0, _, _, h, _, _, _ => absurd h (Nat.lt_irrefl 0)
  | k + 1, n, hn, _, hb, H, hk => by
    refine anyH fd49 rfl rfl ?_ H
    rw [q49]
    have hm : (n : Int).tmod 10 = ((n % 10 : Nat) : Int) := rfl
    have hd : (n : Int).tdiv 10 = ((n / 10 : Nat) : Int) := rfl
    have hlt : n % 10 < 10 := Nat.mod_lt _ (by decide)
    unfold decT
    by_cases h10 : n < 10
    · have hg := digs_at n h10
      have hs : dgt n = UInt8.ofNat (48 + n) := by unfold dgt; rw [Nat.mod_eq_of_lt h10]
      rw [if_pos h10, hs]
      simp at hg
      simp (disch := omega) [d49, hg]
    · have hg := digs_at (n % 10) hlt
      have hs : dgt n = UInt8.ofNat (48 + n % 10) := rfl
      have hk0 : 0 < k := by
        cases k with
        | zero => simp at hn; omega
        | succ k => omega
      have ih := fun H => rdec_ok k (n / 10) (by rw [Nat.pow_succ] at hn; omega) hk0 (by omega) H (by omega)
      have hlen := decT_len k (n / 10)
      push_cast at ih
      have e1 : ((n : Int) % 10).toNat = n % 10 := by omega
      have e2 : ((n : Int) % 10 + 1).toNat = n % 10 + 1 := by omega
      have hLIM : (decT k (n / 10)).length + 1 ≤ LIM := by unfold LIM; omega
      rw [if_neg h10, hs]
      simp at hg
      simp (disch := omega) [d49, hm, hd, ih, e1, e2, hg, hLIM]
theorem rdtext_ok (n : Nat) (hn : n < 9223372036854775808) (H : Heap) : C T 31 [.int .i64 n] H = some (.str (decT 20 n), H) := by
  refine anyH fd31 rfl rfl ?_ H
  rw [q31]
  have h := fun H => rdec_ok 20 n (by omega) (by decide) hn H (by decide)
  simp [d31, h]
end Go.Eng.S
