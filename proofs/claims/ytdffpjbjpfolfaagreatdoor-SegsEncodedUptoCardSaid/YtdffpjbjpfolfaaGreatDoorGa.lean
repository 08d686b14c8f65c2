/- Bytes in classes; hexadecimal digits; places of bytes. No condition. -/
import Derived.Test.YtdffpjbjpfolfaaGreatDoorG0
import Derived.Lib.Bytealg
namespace Go.Eng.S
open Go Go.Eng
/-- The value of a hexadecimal digit, or -1. -/
def hexI (n : Nat) : Int := if 48 ≤ n ∧ n ≤ 57 then (n : Int) - 48 else if 97 ≤ n ∧ n ≤ 102 then (n : Int) - 87 else if 65 ≤ n ∧ n ≤ 70 then (n : Int) - 55 else -1
theorem hexI_lt (n : Nat) : hexI n < 16 ∧ -1 ≤ hexI n := by unfold hexI; repeat' split <;> omega
def isDg (n : Nat) : Bool := decide (48 ≤ n) && decide (n ≤ 57)
theorem digit_ok (c : UInt8) (H : Heap) : C T 82 [.int .u8 c.toNat] H = some (.bool (isDg c.toNat), H) := by
  refine anyH fd82 rfl rfl ?_ H
  rw [q82]
  have h := within_ok c 48 57 []
  have h' : C T 83 [.int .u8 c.toNat, .int .u8 48, .int .u8 57] [] = some (.bool (isDg c.toNat), []) := h
  simp [d82, h']
theorem hexD_ok (c : UInt8) (H : Heap) : C T 67 [.int .u8 c.toNat] H = some (.tup [.int .i64 (if hexI c.toNat < 0 then 0 else hexI c.toNat), .bool (decide (0 ≤ hexI c.toNat))], H) := by
  refine anyH fd67 rfl rfl ?_ H
  rw [q67]
  have h0 := digit_ok c []
  have h1 := within_ok c 97 102 []
  have h2 := within_ok c 65 70 []
  simp only [isDg] at h0
  generalize c.toNat = n at *
  unfold hexI
  by_cases c0 : 48 ≤ n ∧ n ≤ 57
  · have e : (decide (48 ≤ n) && decide (n ≤ 57)) = true := by simpa using c0
    rw [e] at h0
    have g : ¬ ((n : Int) - 48 < 0) := by omega
    simp (disch := omega) [d67, h0, c0, wr8, wr64, g]
  have e : (decide (48 ≤ n) && decide (n ≤ 57)) = false := by rw [← Bool.not_eq_true]; simpa using c0
  rw [e] at h0
  by_cases c1 : 97 ≤ n ∧ n ≤ 102
  · have e : (decide ((97 : UInt8).toNat ≤ n) && decide (n ≤ (102 : UInt8).toNat)) = true := by simpa using c1
    rw [e] at h1
    simp at h1
    have g : ¬ ((n : Int) - 87 < 0) := by omega
    have g3 : (n : Int) - 97 + 10 = (n : Int) - 87 := by omega
    simp (disch := omega) [d67, h0, h1, c0, c1, wr8, wr64, g, g3]
  have e : (decide ((97 : UInt8).toNat ≤ n) && decide (n ≤ (102 : UInt8).toNat)) = false := by rw [← Bool.not_eq_true]; simpa using c1
  rw [e] at h1
  simp at h1
  by_cases c2 : 65 ≤ n ∧ n ≤ 70
  · have e : (decide ((65 : UInt8).toNat ≤ n) && decide (n ≤ (70 : UInt8).toNat)) = true := by simpa using c2
    rw [e] at h2
    simp at h2
    have g : ¬ ((n : Int) - 55 < 0) := by omega
    have g3 : (n : Int) - 65 + 10 = (n : Int) - 55 := by omega
    simp (disch := omega) [d67, h0, h1, h2, c0, c1, c2, wr8, wr64, g, g3]
  have e : (decide ((65 : UInt8).toNat ≤ n) && decide (n ≤ (70 : UInt8).toNat)) = false := by rw [← Bool.not_eq_true]; simpa using c2
  rw [e] at h2
  simp at h2
  simp [d67, h0, h1, h2, c0, c1, c2]

theorem u8_beq (a b : UInt8) : ((a.toNat : Int) == (b.toNat : Int)) = decide (a = b) := by
  rw [Bool.eq_iff_iff]
  simp only [beq_iff_eq, decide_eq_true_eq]
  exact ⟨fun h => UInt8.toNat_inj.1 (by omega), fun h => by rw [h]⟩
theorem u8_eqlit (a : UInt8) (n : Int) (b : UInt8) (h : (b.toNat : Int) = n) : ((a.toNat : Int) == n) = decide (a = b) := by
  rw [← h, Bool.eq_iff_iff]
  simp only [beq_iff_eq, decide_eq_true_eq]
  exact ⟨fun h => UInt8.toNat_inj.1 (by omega), fun h => by rw [h]⟩
def cutI (c : UInt8) (l : List UInt8) : Nat := (l.takeWhile (· != c)).length
theorem cutI_nil (c : UInt8) : cutI c [] = 0 := rfl
theorem cutI_cons (c a : UInt8) (l : List UInt8) : cutI c (a :: l) = if a = c then 0 else cutI c l + 1 := by
  unfold cutI
  rw [List.takeWhile_cons]
  by_cases h : a = c <;> simp [h]
theorem cutI_lt {c : UInt8} : ∀ {l : List UInt8}, c ∈ l ↔ cutI c l < l.length
  | [] => by simp
  | a :: l => by
    rw [cutI_cons]
    by_cases h : a = c
    · simp [h]
    · have ih := cutI_lt (c := c) (l := l)
      rw [if_neg h, List.length_cons, List.mem_cons, ih]
      constructor
      · rintro (h1 | h1)
        · exact absurd h1.symm h
        · omega
      · intro h1; right; omega
theorem cutI_le (c : UInt8) : ∀ (l : List UInt8), cutI c l ≤ l.length
  | [] => Nat.le_refl _
  | a :: l => by
    rw [cutI_cons]
    split
    · omega
    · have := cutI_le c l; simp; omega
theorem idxB (c : UInt8) : ∀ l : List UInt8, Lib.indexByte l c = if c ∈ l then (cutI c l : Int) else -1
  | [] => rfl
  | a :: l => by
    have ih := idxB c l
    rw [cutI_cons]
    unfold Lib.indexByte
    by_cases h : a = c
    · simp [h]
    · have h2 : c ≠ a := Ne.symm h
      have h3 := cutI_le c l
      rw [ih]
      by_cases hm : c ∈ l <;> simp [h, h2, hm] <;> omega
theorem pf91 : T.fn 91 = some (.prim pIdx) := by kernel_rfl
theorem idxS_ok (s : List UInt8) (c : UInt8) (H : Heap) : C T 89 [.str s, .int .u8 c.toNat] H = some (.int .i64 (if c ∈ s then (cutI c s : Int) else -1), H) := by
  refine anyH fd89 rfl rfl ?_ H
  rw [q89]
  have h : C T 91 [.str s, .int .u8 c.toNat] [] = some (.int .i64 (if c ∈ s then (cutI c s : Int) else -1), []) := by
    rw [C_prim pf91, ← idxB]; simp [pIdx]
  have hp : isPure T 91 = false := by kernel_rfl
  simp [d89, h]
theorem index1_ok (s : List UInt8) (c : UInt8) (H : Heap) : C T 77 [.str s, .str [c]] H = some (.int .i64 (if c ∈ s then (cutI c s : Int) else -1), H) := by
  refine anyH fd77 rfl rfl ?_ H
  rw [q77]
  have h := idxS_ok s c []
  by_cases hs : [c] = s
  · subst hs
    simp [d77, cutI]
  · have hs' : ([c] == s) = false := by simpa using hs
    simp [d77, hs', h]

/-- A fault with a status and an offset. -/
abbrev flt (s a : Int) : AV := .iface 84 (.agg [.int .i64 s, .int .i64 a])
theorem new_ok (s a : Int) (H : Heap) : C T 25 [.int .i64 s, .int .i64 a] H = some (flt s a, H) := anyH fd25 rfl rfl (C_of 9 (by kernel_rfl)) H
theorem unres_ok (c : UInt8) (H : Heap) : C T 50 [.int .u8 c.toNat] H = some (.bool (clsB 3 c), H) := by
  refine anyH fd50 rfl rfl ?_ H
  have := all256 (p := fun n => isB (acall T 20 50 [.int .u8 n] []) (clsB 3 (UInt8.ofNat n))) (by decide +kernel) c
  rw [UInt8.ofNat_toNat] at this
  exact C_of 20 (of_isB this)
/-- A byte of a path text. -/
def alw (c : UInt8) : Bool := c == 47 || c == 37 || clsB 4 c
theorem alw_ok (c : UInt8) (H : Heap) : C T 41 [.int .u8 c.toNat] H = some (.bool (alw c), H) := by
  refine anyH fd41 rfl rfl ?_ H
  have := all256 (p := fun n => isB (acall T 20 41 [.int .u8 n] []) (alw (UInt8.ofNat n))) (by decide +kernel) c
  rw [UInt8.ofNat_toNat] at this
  exact C_of 20 (of_isB this)
theorem nalw_ok (c : UInt8) (H : Heap) : C T 40 [.int .u8 c.toNat] H = some (.bool (!alw c), H) := by
  refine anyH fd40 rfl rfl ?_ H
  rw [q40]
  have h := alw_ok c []
  simp [d40, h]
/-- An upper case digit. -/
def dgU (n : Nat) : UInt8 := if n < 10 then UInt8.ofNat (48 + n) else UInt8.ofNat (55 + n)
def isI (r : Option (AV × Heap)) (n : Nat) : Bool := match r with
  | some (.int .u8 m, []) => m == (n : Int)
  | _ => false
theorem of_isI {r : Option (AV × Heap)} {n : Nat} (h : isI r n = true) : r = some (.int .u8 n, []) := by
  unfold isI at h
  split at h
  · rw [eq_of_beq h]
  · cases h
theorem digit16_ok (n : Nat) (hn : n < 16) (H : Heap) : C T 51 [.int .u8 n] H = some (.int .u8 (dgU n).toNat, H) := by
  refine anyH fd51 rfl rfl ?_ H
  have := List.all_eq_true.1 (show (List.range 16).all (fun n => isI (acall T 20 51 [.int .u8 n] []) (dgU n).toNat) = true by decide +kernel) n (List.mem_range.2 hn)
  exact C_of 20 (of_isI this)
end Go.Eng.S
