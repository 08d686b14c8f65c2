/- The hexadecimal texts of small numbers, by the kernel, ten at a time (hexq.py). No condition. -/
import Derived.Test.YtpdkdkdcmnipfaaGreatDoorKu
namespace Go.Eng.S
open Go Go.Eng
def hexD (n : Nat) : UInt8 := UInt8.ofNat (if n < 10 then 48 + n else 87 + n)
def hexT : Nat → Nat → List UInt8
  | 0, _ => []
  | k + 1, n => if n < 16 then [hexD n] else hexT k (n / 16) ++ [hexD (n % 16)]
abbrev hx (n : Nat) : List UInt8 := hexT 5 n
def isS (r : Option (AV × Heap)) (s : List UInt8) : Bool := match r with
  | some (.str t, []) => t == s
  | _ => false
theorem of_isS {r : Option (AV × Heap)} {s : List UInt8} (h : isS r s = true) : r = some (.str s, []) := by
  unfold isS at h
  split at h
  · rw [eq_of_beq h]
  · cases h
def hxq (n : Nat) : Bool := isS (acall T 30 32 [.int .i64 n, .int .i64 16] []) (hx n)
def hxr (n : Nat) : Bool := isS (acall T 30 33 [.int .i64 n] []) (hx n)
theorem hxq0 : (List.range' 0 10).all hxq = true := by decide +kernel
theorem hxr0 : (List.range' 0 10).all hxr = true := by decide +kernel
theorem hxq1 : (List.range' 10 10).all hxq = true := by decide +kernel
theorem hxr1 : (List.range' 10 10).all hxr = true := by decide +kernel
theorem hxq2 : (List.range' 20 10).all hxq = true := by decide +kernel
theorem hxr2 : (List.range' 20 10).all hxr = true := by decide +kernel
theorem hxq3 : (List.range' 30 10).all hxq = true := by decide +kernel
theorem hxr3 : (List.range' 30 10).all hxr = true := by decide +kernel
theorem hxq4 : (List.range' 40 10).all hxq = true := by decide +kernel
theorem hxr4 : (List.range' 40 10).all hxr = true := by decide +kernel
theorem hxq5 : (List.range' 50 10).all hxq = true := by decide +kernel
theorem hxr5 : (List.range' 50 10).all hxr = true := by decide +kernel
theorem hxq6 : (List.range' 60 10).all hxq = true := by decide +kernel
theorem hxr6 : (List.range' 60 10).all hxr = true := by decide +kernel
theorem hxq7 : (List.range' 70 10).all hxq = true := by decide +kernel
theorem hxr7 : (List.range' 70 10).all hxr = true := by decide +kernel
theorem hxq8 : (List.range' 80 10).all hxq = true := by decide +kernel
theorem hxr8 : (List.range' 80 10).all hxr = true := by decide +kernel
theorem hxq9 : (List.range' 90 10).all hxq = true := by decide +kernel
theorem hxr9 : (List.range' 90 10).all hxr = true := by decide +kernel
theorem hxq10 : (List.range' 100 10).all hxq = true := by decide +kernel
theorem hxr10 : (List.range' 100 10).all hxr = true := by decide +kernel
theorem hxq11 : (List.range' 110 10).all hxq = true := by decide +kernel
theorem hxr11 : (List.range' 110 10).all hxr = true := by decide +kernel
theorem hxq12 : (List.range' 120 10).all hxq = true := by decide +kernel
theorem hxr12 : (List.range' 120 10).all hxr = true := by decide +kernel
theorem hxq13 : (List.range' 130 10).all hxq = true := by decide +kernel
theorem hxr13 : (List.range' 130 10).all hxr = true := by decide +kernel
theorem hxq14 : (List.range' 140 10).all hxq = true := by decide +kernel
theorem hxr14 : (List.range' 140 10).all hxr = true := by decide +kernel
theorem hxq15 : (List.range' 150 10).all hxq = true := by decide +kernel
theorem hxr15 : (List.range' 150 10).all hxr = true := by decide +kernel
theorem hxq16 : (List.range' 160 10).all hxq = true := by decide +kernel
theorem hxr16 : (List.range' 160 10).all hxr = true := by decide +kernel
theorem hxq17 : (List.range' 170 10).all hxq = true := by decide +kernel
theorem hxr17 : (List.range' 170 10).all hxr = true := by decide +kernel
theorem hxq18 : (List.range' 180 10).all hxq = true := by decide +kernel
theorem hxr18 : (List.range' 180 10).all hxr = true := by decide +kernel
theorem hxq19 : (List.range' 190 10).all hxq = true := by decide +kernel
theorem hxr19 : (List.range' 190 10).all hxr = true := by decide +kernel
theorem hxq20 : (List.range' 200 10).all hxq = true := by decide +kernel
theorem hxr20 : (List.range' 200 10).all hxr = true := by decide +kernel
theorem hxq21 : (List.range' 210 10).all hxq = true := by decide +kernel
theorem hxr21 : (List.range' 210 10).all hxr = true := by decide +kernel
theorem hxq22 : (List.range' 220 10).all hxq = true := by decide +kernel
theorem hxr22 : (List.range' 220 10).all hxr = true := by decide +kernel
theorem hxq23 : (List.range' 230 10).all hxq = true := by decide +kernel
theorem hxr23 : (List.range' 230 10).all hxr = true := by decide +kernel
theorem hxq24 : (List.range' 240 10).all hxq = true := by decide +kernel
theorem hxr24 : (List.range' 240 10).all hxr = true := by decide +kernel
theorem hxq25 : (List.range' 250 10).all hxq = true := by decide +kernel
theorem hxr25 : (List.range' 250 10).all hxr = true := by decide +kernel
theorem hxq26 : (List.range' 260 10).all hxq = true := by decide +kernel
theorem hxr26 : (List.range' 260 10).all hxr = true := by decide +kernel
theorem hxq27 : (List.range' 270 10).all hxq = true := by decide +kernel
theorem hxr27 : (List.range' 270 10).all hxr = true := by decide +kernel
theorem hxq28 : (List.range' 280 10).all hxq = true := by decide +kernel
theorem hxr28 : (List.range' 280 10).all hxr = true := by decide +kernel
theorem hxq29 : (List.range' 290 10).all hxq = true := by decide +kernel
theorem hxr29 : (List.range' 290 10).all hxr = true := by decide +kernel
theorem hxq30 : (List.range' 300 10).all hxq = true := by decide +kernel
theorem hxr30 : (List.range' 300 10).all hxr = true := by decide +kernel
theorem hxq_all (n : Nat) (hn : n ≤ 300) : hxq n = true := by
  have h : (0 ≤ n ∧ n < 10) ∨ (10 ≤ n ∧ n < 20) ∨ (20 ≤ n ∧ n < 30) ∨ (30 ≤ n ∧ n < 40) ∨ (40 ≤ n ∧ n < 50) ∨ (50 ≤ n ∧ n < 60) ∨ (60 ≤ n ∧ n < 70) ∨ (70 ≤ n ∧ n < 80) ∨ (80 ≤ n ∧ n < 90) ∨ (90 ≤ n ∧ n < 100) ∨ (100 ≤ n ∧ n < 110) ∨ (110 ≤ n ∧ n < 120) ∨ (120 ≤ n ∧ n < 130) ∨ (130 ≤ n ∧ n < 140) ∨ (140 ≤ n ∧ n < 150) ∨ (150 ≤ n ∧ n < 160) ∨ (160 ≤ n ∧ n < 170) ∨ (170 ≤ n ∧ n < 180) ∨ (180 ≤ n ∧ n < 190) ∨ (190 ≤ n ∧ n < 200) ∨ (200 ≤ n ∧ n < 210) ∨ (210 ≤ n ∧ n < 220) ∨ (220 ≤ n ∧ n < 230) ∨ (230 ≤ n ∧ n < 240) ∨ (240 ≤ n ∧ n < 250) ∨ (250 ≤ n ∧ n < 260) ∨ (260 ≤ n ∧ n < 270) ∨ (270 ≤ n ∧ n < 280) ∨ (280 ≤ n ∧ n < 290) ∨ (290 ≤ n ∧ n < 300) ∨ (300 ≤ n ∧ n < 310) := by omega
  rcases h with h | h | h | h | h | h | h | h | h | h | h | h | h | h | h | h | h | h | h | h | h | h | h | h | h | h | h | h | h | h | h
  · exact List.all_eq_true.1 hxq0 n (List.mem_range'_1.2 h)
  · exact List.all_eq_true.1 hxq1 n (List.mem_range'_1.2 h)
  · exact List.all_eq_true.1 hxq2 n (List.mem_range'_1.2 h)
  · exact List.all_eq_true.1 hxq3 n (List.mem_range'_1.2 h)
  · exact List.all_eq_true.1 hxq4 n (List.mem_range'_1.2 h)
  · exact List.all_eq_true.1 hxq5 n (List.mem_range'_1.2 h)
  · exact List.all_eq_true.1 hxq6 n (List.mem_range'_1.2 h)
  · exact List.all_eq_true.1 hxq7 n (List.mem_range'_1.2 h)
  · exact List.all_eq_true.1 hxq8 n (List.mem_range'_1.2 h)
  · exact List.all_eq_true.1 hxq9 n (List.mem_range'_1.2 h)
  · exact List.all_eq_true.1 hxq10 n (List.mem_range'_1.2 h)
  · exact List.all_eq_true.1 hxq11 n (List.mem_range'_1.2 h)
  · exact List.all_eq_true.1 hxq12 n (List.mem_range'_1.2 h)
  · exact List.all_eq_true.1 hxq13 n (List.mem_range'_1.2 h)
  · exact List.all_eq_true.1 hxq14 n (List.mem_range'_1.2 h)
  · exact List.all_eq_true.1 hxq15 n (List.mem_range'_1.2 h)
  · exact List.all_eq_true.1 hxq16 n (List.mem_range'_1.2 h)
  · exact List.all_eq_true.1 hxq17 n (List.mem_range'_1.2 h)
  · exact List.all_eq_true.1 hxq18 n (List.mem_range'_1.2 h)
  · exact List.all_eq_true.1 hxq19 n (List.mem_range'_1.2 h)
  · exact List.all_eq_true.1 hxq20 n (List.mem_range'_1.2 h)
  · exact List.all_eq_true.1 hxq21 n (List.mem_range'_1.2 h)
  · exact List.all_eq_true.1 hxq22 n (List.mem_range'_1.2 h)
  · exact List.all_eq_true.1 hxq23 n (List.mem_range'_1.2 h)
  · exact List.all_eq_true.1 hxq24 n (List.mem_range'_1.2 h)
  · exact List.all_eq_true.1 hxq25 n (List.mem_range'_1.2 h)
  · exact List.all_eq_true.1 hxq26 n (List.mem_range'_1.2 h)
  · exact List.all_eq_true.1 hxq27 n (List.mem_range'_1.2 h)
  · exact List.all_eq_true.1 hxq28 n (List.mem_range'_1.2 h)
  · exact List.all_eq_true.1 hxq29 n (List.mem_range'_1.2 h)
  · exact List.all_eq_true.1 hxq30 n (List.mem_range'_1.2 h)
theorem hxr_all (n : Nat) (hn : n ≤ 300) : hxr n = true := by
  have h : (0 ≤ n ∧ n < 10) ∨ (10 ≤ n ∧ n < 20) ∨ (20 ≤ n ∧ n < 30) ∨ (30 ≤ n ∧ n < 40) ∨ (40 ≤ n ∧ n < 50) ∨ (50 ≤ n ∧ n < 60) ∨ (60 ≤ n ∧ n < 70) ∨ (70 ≤ n ∧ n < 80) ∨ (80 ≤ n ∧ n < 90) ∨ (90 ≤ n ∧ n < 100) ∨ (100 ≤ n ∧ n < 110) ∨ (110 ≤ n ∧ n < 120) ∨ (120 ≤ n ∧ n < 130) ∨ (130 ≤ n ∧ n < 140) ∨ (140 ≤ n ∧ n < 150) ∨ (150 ≤ n ∧ n < 160) ∨ (160 ≤ n ∧ n < 170) ∨ (170 ≤ n ∧ n < 180) ∨ (180 ≤ n ∧ n < 190) ∨ (190 ≤ n ∧ n < 200) ∨ (200 ≤ n ∧ n < 210) ∨ (210 ≤ n ∧ n < 220) ∨ (220 ≤ n ∧ n < 230) ∨ (230 ≤ n ∧ n < 240) ∨ (240 ≤ n ∧ n < 250) ∨ (250 ≤ n ∧ n < 260) ∨ (260 ≤ n ∧ n < 270) ∨ (270 ≤ n ∧ n < 280) ∨ (280 ≤ n ∧ n < 290) ∨ (290 ≤ n ∧ n < 300) ∨ (300 ≤ n ∧ n < 310) := by omega
  rcases h with h | h | h | h | h | h | h | h | h | h | h | h | h | h | h | h | h | h | h | h | h | h | h | h | h | h | h | h | h | h | h
  · exact List.all_eq_true.1 hxr0 n (List.mem_range'_1.2 h)
  · exact List.all_eq_true.1 hxr1 n (List.mem_range'_1.2 h)
  · exact List.all_eq_true.1 hxr2 n (List.mem_range'_1.2 h)
  · exact List.all_eq_true.1 hxr3 n (List.mem_range'_1.2 h)
  · exact List.all_eq_true.1 hxr4 n (List.mem_range'_1.2 h)
  · exact List.all_eq_true.1 hxr5 n (List.mem_range'_1.2 h)
  · exact List.all_eq_true.1 hxr6 n (List.mem_range'_1.2 h)
  · exact List.all_eq_true.1 hxr7 n (List.mem_range'_1.2 h)
  · exact List.all_eq_true.1 hxr8 n (List.mem_range'_1.2 h)
  · exact List.all_eq_true.1 hxr9 n (List.mem_range'_1.2 h)
  · exact List.all_eq_true.1 hxr10 n (List.mem_range'_1.2 h)
  · exact List.all_eq_true.1 hxr11 n (List.mem_range'_1.2 h)
  · exact List.all_eq_true.1 hxr12 n (List.mem_range'_1.2 h)
  · exact List.all_eq_true.1 hxr13 n (List.mem_range'_1.2 h)
  · exact List.all_eq_true.1 hxr14 n (List.mem_range'_1.2 h)
  · exact List.all_eq_true.1 hxr15 n (List.mem_range'_1.2 h)
  · exact List.all_eq_true.1 hxr16 n (List.mem_range'_1.2 h)
  · exact List.all_eq_true.1 hxr17 n (List.mem_range'_1.2 h)
  · exact List.all_eq_true.1 hxr18 n (List.mem_range'_1.2 h)
  · exact List.all_eq_true.1 hxr19 n (List.mem_range'_1.2 h)
  · exact List.all_eq_true.1 hxr20 n (List.mem_range'_1.2 h)
  · exact List.all_eq_true.1 hxr21 n (List.mem_range'_1.2 h)
  · exact List.all_eq_true.1 hxr22 n (List.mem_range'_1.2 h)
  · exact List.all_eq_true.1 hxr23 n (List.mem_range'_1.2 h)
  · exact List.all_eq_true.1 hxr24 n (List.mem_range'_1.2 h)
  · exact List.all_eq_true.1 hxr25 n (List.mem_range'_1.2 h)
  · exact List.all_eq_true.1 hxr26 n (List.mem_range'_1.2 h)
  · exact List.all_eq_true.1 hxr27 n (List.mem_range'_1.2 h)
  · exact List.all_eq_true.1 hxr28 n (List.mem_range'_1.2 h)
  · exact List.all_eq_true.1 hxr29 n (List.mem_range'_1.2 h)
  · exact List.all_eq_true.1 hxr30 n (List.mem_range'_1.2 h)
theorem fmt_ok (n : Nat) (hn : n ≤ 300) (H : Heap) : C T 32 [.int .i64 n, .int .i64 16] H = some (.str (hx n), H) := anyH fd32 rfl rfl (C_of 30 (of_isS (hxq_all n hn))) H
theorem rhx_ok (n : Nat) (hn : n ≤ 300) (H : Heap) : C T 33 [.int .i64 n] H = some (.str (hx n), H) := anyH fd33 rfl rfl (C_of 30 (of_isS (hxr_all n hn))) H
end Go.Eng.S
