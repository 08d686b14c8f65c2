/- Names of hosts: the code's. No condition. -/
import Derived.Test.YtfpknphncaopkaaDoorPd
import Derived.Test.YtfpknphncaopkaaDoorPs
namespace Go.Eng.S
open Go Go.Eng
def six (c : UInt8) : Bool := decide (0 ≤ hexI c.toNat) || c == 58 || c == 46
def isLt (n : Nat) : Bool := (decide (65 ≤ n) && decide (n ≤ 90)) || (decide (97 ≤ n) && decide (n ≤ 122))
def nam (c : UInt8) : Bool := isLt c.toNat || isDg c.toNat || c == 45 || c == 46 || c == 95
theorem u8_lit (a : UInt8) (n : Nat) (b : UInt8) (h : b.toNat = n) : ((a.toNat : Int) == (n : Int)) = (a == b) := by
  rw [← h, u8_beq]; rfl
theorem u8_nlit (a : UInt8) (n : Nat) (b : UInt8) (h : b.toNat = n) : ((a.toNat : Int) != (n : Int)) = (a != b) := by
  rw [bne, bne, u8_lit a n b h]
theorem letter_ok (c : UInt8) (H : Heap) : C T 114 [.int .u8 c.toNat] H = some (.bool (isLt c.toNat), H) := by
  refine anyH fd114 rfl rfl ?_ H
  rw [q114]
  have h1 := within_ok c 65 90 []
  have h2 := within_ok c 97 122 []
  simp only [show (65 : UInt8).toNat = 65 from rfl, show (90 : UInt8).toNat = 90 from rfl, show (97 : UInt8).toNat = 97 from rfl, show (122 : UInt8).toNat = 122 from rfl] at h1 h2
  unfold isLt
  generalize (decide (65 ≤ c.toNat) && decide (c.toNat ≤ 90)) = b1 at *
  generalize (decide (97 ≤ c.toNat) && decide (c.toNat ≤ 122)) = b2 at *
  cases b1 <;> simp at h1 h2 <;> simp [d114, h1, h2]
theorem six_ok (c : UInt8) (H : Heap) : C T 111 [.int .u8 c.toNat] H = some (.bool (six c), H) := by
  refine anyH fd111 rfl rfl ?_ H
  rw [q111]
  have h1 := hexD_ok c []
  have e1 := u8_lit c 58 58 rfl
  have e2 := u8_lit c 46 46 rfl
  unfold six
  generalize decide (0 ≤ hexI c.toNat) = b1 at *
  simp only [Int.cast_ofNat_Int] at e1 e2
  cases b1 <;> cases h58 : c == 58 <;> rw [h58] at e1 <;> simp [d111, h1, e1, e2]
theorem nam_ok (c : UInt8) (H : Heap) : C T 113 [.int .u8 c.toNat] H = some (.bool (nam c), H) := by
  refine anyH fd113 rfl rfl ?_ H
  rw [q113]
  have h1 := letter_ok c []
  have h2 := digit_ok c []
  have e1 := u8_lit c 45 45 rfl
  have e2 := u8_lit c 46 46 rfl
  have e3 := u8_lit c 95 95 rfl
  unfold nam
  generalize isLt c.toNat = b1 at *
  generalize isDg c.toNat = b2 at *
  simp only [Int.cast_ofNat_Int] at e1 e2 e3
  cases b1 <;> cases b2 <;> cases h58 : c == 45 <;> rw [h58] at e1 <;> cases h59 : c == 46 <;> rw [h59] at e2 <;> simp [d113, h1, h2, e1, e2, e3]

theorem name_loop {f : Nat} {hol : UInt8 → Bool} (hf : ∀ (c : UInt8) H, C T f [.int .u8 c.toNat] H = some (.bool (hol c), H)) (hp : isPure T f = true) (p q s : List UInt8) (hs : s.length < 1000000000) (ok : Bool) : ∀ (k i : Nat), i + k = s.length →
    ∃ e', XL T [2, 5, 6, 7] L23_0 [(2, .ptr 0 0 0), (5, .str s), (6, .bool ok), (7, .int .i64 i)] [⟨[.str p, .str q, .fn (.func f) [] []], 0, true⟩] = some (.exit 0, e', [⟨[.str p, .str q, .fn (.func f) [] []], 0, true⟩]) ∧
      e'.get 2 = .ptr 0 0 0 ∧ e'.get 5 = .str s ∧ e'.get 6 = .bool ok ∧ e'.get 7 = .int .i64 ((i + ((s.drop i).takeWhile hol).length : Nat) : Int)
  | 0, i, hk => by
    have hdr : s.drop i = [] := List.drop_eq_nil_of_le (by omega)
    rw [XL_eq, hdr]
    simp [L23_0, show ¬ i < s.length by omega]
  | k + 1, i, hk => by
    have hlt : i < s.length := by omega
    have hdr : s.drop i = s[i] :: s.drop (i + 1) := List.drop_eq_getElem_cons hlt
    have hx := hf s[i]
    have ih := name_loop hf hp p q s hs ok k (i + 1) (by omega)
    rw [hdr, XL_eq, List.takeWhile_cons]
    generalize (s.drop (i + 1)).takeWhile hol = R at *
    cases hvb : hol s[i] with
    | false =>
      rw [hvb] at hx
      simp (disch := omega) [L23_0, hlt, hx, hget, hp]
    | true =>
      rw [hvb] at hx
      simp only [if_true, List.length_cons]
      rw [show i + (R.length + 1) = i + 1 + R.length by omega]
      generalize i + 1 + R.length = m at *
      push_cast at ih
      generalize XL T [2, 5, 6, 7] L23_0 = lp at *
      simp (disch := omega) [L23_0, hlt, hx, hget, hp, wr64]
      exact ih
def nameR (p q : List UInt8) (hol : UInt8 → Bool) (s : List UInt8) : Nat := if hasP p s = true then
    (if ((s.drop p.length).takeWhile hol).length = 0 then 0 else if hasP q ((s.drop p.length).drop ((s.drop p.length).takeWhile hol).length) = true then p.length + ((s.drop p.length).takeWhile hol).length + q.length else 0) else 0
theorem name_ok {f : Nat} {hol : UInt8 → Bool} (hf : ∀ (c : UInt8) H, C T f [.int .u8 c.toNat] H = some (.bool (hol c), H)) (hp : isPure T f = true) (p q s : List UInt8) (hs : s.length < 1000000000) (hpl : p.length < 1000) (hql : q.length < 1000) (H : Heap) :
    C T 23 [.agg [.str p, .str q, .fn (.func f) [] []], .str s] H = some (.int .i64 (nameR p q hol s), H) := by
  refine anyH fd23 rfl rfl ?_ H
  rw [q23]
  have hc := scut_ok s p [⟨[.str p, .str q, .fn (.func f) [] []], 0, true⟩]
  have hsf : ∀ (k : Nat) (H : Heap), snap (k + 1) H (.fn (.func f) [] []) = some (.fn (.func f) [] [], H) := fun _ _ => rfl
  unfold nameR
  cases h1 : hasP p s with
  | false =>
    rw [h1] at hc
    simp at hc
    obtain ⟨e', g1, g2, g3, g4, g5⟩ := name_loop hf hp p q s hs false s.length 0 (by omega)
    simp only [Int.natCast_zero] at g1
    simp [d23, hc, hsf, hget, g1, g2, g3, g4, g5]
  | true =>
    rw [h1] at hc
    simp at hc
    have hsl : (s.drop p.length).length < 1000000000 := by simp; omega
    obtain ⟨e', g1, g2, g3, g4, g5⟩ := name_loop hf hp p q (s.drop p.length) hsl true (s.drop p.length).length 0 (by omega)
    simp only [Int.natCast_zero] at g1
    rw [List.drop_zero, Nat.zero_add] at g5
    have hle := (List.takeWhile_sublist hol (l := s.drop p.length)).length_le
    generalize s.drop p.length = rest at *
    generalize (rest.takeWhile hol).length = n at *
    by_cases h2 : n = 0
    · subst h2
      simp at g5
      simp [d23, hc, hsf, hget, g1, g2, g3, g4, g5]
    · have h3 : ((n : Int) == 0) = false := by rw [beq_eq_false_iff_ne]; omega
      have h5 : (n : Int) ≤ rest.length := by omega
      have hq := sprefix_ok (rest.drop n) q
      cases h4 : hasP q (rest.drop n) <;> rw [h4] at hq <;>
      simp (disch := omega) [d23, hc, hsf, hget, g1, g2, g3, g4, g5, h2, h3, hq, wr64]
end Go.Eng.S
