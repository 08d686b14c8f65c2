/- Decimal and hexadecimal numbers: the code's and the reference's. No condition. -/
import Derived.Test.YtpdkdkdcmnipfaaGreatDoorPb
namespace Go.Eng.S
open Go Go.Eng
/-- A fault with a status and an offset. -/
abbrev flt (s a : Int) : AV := .iface 81 (.agg [.int .i64 s, .int .i64 a])
theorem new_ok (s a : Int) (H : Heap) : C T 21 [.int .i64 s, .int .i64 a] H = some (flt s a, H) := anyH fd21 rfl rfl (C_of 9 (by kernel_rfl)) H

/-- The first byte that is no digit. -/
def firstBad (vb : UInt8 → Bool) : List UInt8 → Nat → Option Nat
  | [], _ => none
  | c :: r, i => if vb c = true then firstBad vb r (i + 1) else some i
/-- The number, if it is not too great. -/
def dv (b m : Int) (vv : UInt8 → Int) : List UInt8 → Int → Option Int
  | [], n => some n
  | c :: r, n => if m < n * b + vv c then none else dv b m vv r (n * b + vv c)
theorem dv_le {b m : Int} {vv : UInt8 → Int} : ∀ {l : List UInt8} {n x : Int}, n ≤ m → dv b m vv l n = some x → x ≤ m
  | [], n, x, h, e => by cases e; exact h
  | c :: r, n, x, h, e => by
    unfold dv at e
    split at e
    · cases e
    · exact dv_le (by omega) e
theorem dv_ge {b m : Int} {vv : UInt8 → Int} (hb : 0 ≤ b) (hv : ∀ c, 0 ≤ vv c) : ∀ {l : List UInt8} {n x : Int}, 0 ≤ n → dv b m vv l n = some x → 0 ≤ x
  | [], n, x, h, e => by cases e; exact h
  | c :: r, n, x, h, e => by
    unfold dv at e
    split at e
    · cases e
    · refine dv_ge hb hv ?_ e
      have := hv c
      have := Int.mul_nonneg h hb
      omega

theorem over_iff (n v b m : Int) (hn : 0 ≤ n) (hb : 2 ≤ b) (_hm : 0 ≤ m) (_hv : 0 ≤ v) : (n > (m - v).tdiv b ∨ v > m) ↔ m < n * b + v := by
  by_cases h : v ≤ m
  · rw [Int.tdiv_eq_ediv_of_nonneg (by omega)]
    constructor
    · rintro (h1 | h1)
      · have := Int.lt_mul_of_ediv_lt (by omega : 0 < b) h1
        omega
      · omega
    · intro h1
      exact .inl ((Int.ediv_lt_iff_lt_mul (by omega)).2 (by omega))
  · have := Int.mul_nonneg hn (by omega : 0 ≤ b)
    exact ⟨fun _ => by omega, fun _ => .inr (by omega)⟩
theorem tdiv_bd (m v b : Int) (hb : 2 ≤ b) (hm : 0 ≤ m) (hv : 0 ≤ v) (hv2 : v ≤ 255) : -255 ≤ (m - v).tdiv b ∧ (m - v).tdiv b ≤ m := by
  by_cases h : v ≤ m
  · rw [Int.tdiv_eq_ediv_of_nonneg (by omega)]
    have h1 := Int.ediv_le_self (a := m - v) b (by omega)
    have h2 := Int.ediv_nonneg (a := m - v) (b := b) (by omega) (by omega)
    omega
  · have e : m - v = -(v - m) := by omega
    rw [e, Int.neg_tdiv, Int.tdiv_eq_ediv_of_nonneg (by omega)]
    have h1 := Int.ediv_le_self (a := v - m) b (by omega)
    have h2 := Int.ediv_nonneg (a := v - m) (b := b) (by omega) (by omega)
    omega

/-- The code's numbers: what 'value' gives for each byte. -/
structure Dig (f : Nat) (b : Int) (vb : UInt8 → Bool) (vv : UInt8 → Int) : Prop where
  base : 2 ≤ b ∧ b ≤ 16
  call : ∀ c, ∃ x : Int, C T f [.int .u8 c.toNat] [] = some (.tup [.int .i64 x, .bool (vb c)], []) ∧ (vb c = true → x = vv c)
  lt : ∀ c, vb c = true → vv c < b
  ge : ∀ c, 0 ≤ vv c

def numPost (b m : Int) (vb : UInt8 → Bool) (vv : UInt8 → Int) (l : List UInt8) (i : Nat) (n : Int) (o : Bool) (r : XR) : Prop :=
  match firstBad vb l i with
  | some j => ∃ e', r = some (.ret, e', []) ∧ e'.get 8 = .int .i64 0 ∧ e'.get 9 = flt 400 j
  | none => ∃ e' n' o', r = some (.exit 0, e', []) ∧ e'.get 10 = .int .i64 n' ∧ e'.get 11 = .bool o' ∧ (if o = true then o' = true else match dv b m vv l n with
      | none => o' = true
      | some x => o' = false ∧ n' = x)
theorem num_loop {f : Nat} {b m : Int} {vb : UInt8 → Bool} {vv : UInt8 → Int} (hd : Dig f b vb vv) (hm0 : 0 ≤ m) (hm : m ≤ 4611686018427387904) (s : List UInt8) (hs : s.length < 1000000000) :
    ∀ (k i : Nat) (n : Int) (o : Bool), i + k = s.length → 0 ≤ n → n ≤ m →
      numPost b m vb vv (s.drop i) i n o (XL T [0, 1, 2, 3, 10, 11, 19, 20] L77_0 [(0, .str s), (1, .int .i64 b), (2, .int .i64 m), (3, .fn (.func f) [] []), (10, .int .i64 n), (11, .bool o), (19, .int .i64 s.length), (20, .int .i64 i)] [])
  | 0, i, n, o, hk, hn0, hn1 => by
    have hdr : s.drop i = [] := List.drop_eq_nil_of_le (by omega)
    rw [XL_eq, hdr]
    simp [L77_0, numPost, firstBad, dv, show ¬ i < s.length by omega]
  | k + 1, i, n, o, hk, hn0, hn1 => by
    have hlt : i < s.length := by omega
    have hdr : s.drop i = s[i] :: s.drop (i + 1) := List.drop_eq_getElem_cons hlt
    rw [hdr]
    obtain ⟨hb2, hb16⟩ := hd.base
    obtain ⟨x, hx, hxv⟩ := hd.call s[i]
    have hv0 := hd.ge s[i]
    have hvl := hd.lt s[i]
    have hnew := new_ok 400 i []
    have ih := num_loop hd hm0 hm s hs k (i + 1)
    push_cast at ih
    rw [XL_eq]
    generalize XL T [0, 1, 2, 3, 10, 11, 19, 20] L77_0 = lp at *
    generalize s.drop (i + 1) = R at *
    cases hvb : vb s[i] with
    | false =>
      rw [hvb] at hx
      unfold numPost firstBad
      simp (disch := omega) [L77_0, hx, hnew, hlt, hvb]
    | true =>
      rw [hvb] at hx
      obtain rfl := hxv hvb
      have hvl := hvl hvb
      have hnp : ∀ o, numPost b m vb vv (s[i] :: R) i n o = if o = true ∨ m < n * b + vv s[i] then numPost b m vb vv R (i + 1) n true else numPost b m vb vv R (i + 1) (n * b + vv s[i]) false := by
        intro o
        funext r
        unfold numPost
        rw [firstBad, if_pos hvb]
        cases o with
        | true => rfl
        | false =>
          by_cases hg : m < n * b + vv s[i]
          · rw [if_pos (.inr hg), dv, if_pos hg]; rfl
          · rw [if_neg (by simpa using hg), dv, if_neg hg]
      rw [hnp]
      clear hnp
      generalize vv s[i] = v at *
      have hov := over_iff n v b m hn0 hb2 hm0 hv0
      have htd := tdiv_bd m v b hb2 hm0 hv0 (by omega)
      have hb0 : b ≠ 0 := by omega
      cases o with
      | true =>
        have ih := ih n true (by omega) hn0 hn1
        rw [if_pos (.inl rfl)]
        simp (disch := omega) [L77_0, hx, hlt, wr64]
        exact ih
      | false =>
        by_cases hg : m < n * b + v
        · have ih := ih n true (by omega) hn0 hn1
          rw [if_pos (.inr hg)]
          by_cases h1 : n > (m - v).tdiv b
          · simp (disch := omega) [L77_0, hx, hlt, wr64, hb0, h1]
            exact ih
          · have h2 : v > m := (hov.2 hg).resolve_left h1
            simp (disch := omega) [L77_0, hx, hlt, wr64, hb0, h1, h2]
            exact ih
        · have h1 : ¬ n > (m - v).tdiv b := fun h => hg (hov.1 (.inl h))
          have h2 : ¬ v > m := fun h => hg (hov.1 (.inr h))
          have h3 := Int.mul_nonneg hn0 (by omega : 0 ≤ b)
          have ih := ih (n * b + v) false (by omega) (by omega) (by omega)
          rw [if_neg (by simpa using hg)]
          simp (disch := omega) [L77_0, hx, hlt, wr64, hb0, h1, h2]
          exact ih

def numR (b m : Int) (vb : UInt8 → Bool) (vv : UInt8 → Int) (s : List UInt8) : List AV := if s = [] then [.int .i64 0, flt 400 0] else match firstBad vb s 0 with
  | some j => [.int .i64 0, flt 400 j]
  | none => match dv b m vv s 0 with
    | none => [.int .i64 0, flt 413 0]
    | some n => [.int .i64 n, .cst .nilIface]
theorem number_ok {f : Nat} {b m : Int} {vb : UInt8 → Bool} {vv : UInt8 → Int} (hd : Dig f b vb vv) (hm0 : 0 ≤ m) (hm : m ≤ 4611686018427387904) (s : List UInt8) (hs : s.length < 1000000000) (H : Heap) :
    C T 77 [.str s, .int .i64 b, .int .i64 m, .fn (.func f) [] []] H = some (.tup (numR b m vb vv s), H) := by
  refine anyH fd77 rfl rfl ?_ H
  rw [q77]
  have e0 := new_ok 400 0 []
  have e1 := new_ok 413 0 []
  have hsf : ∀ (k : Nat) (H : Heap), snap (k + 1) H (.fn (.func f) [] []) = some (.fn (.func f) [] [], H) := fun _ _ => rfl
  by_cases hc : s = []
  · subst hc
    simp [d77, numR, e0, hsf]
  · have hl := num_loop hd hm0 hm s hs s.length 0 0 false (by omega) (by omega) hm0
    rw [List.drop_zero] at hl
    rw [numR, if_neg hc]
    have hce : s.isEmpty = false := by cases s <;> first | rfl | exact absurd rfl hc
    unfold numPost at hl
    simp only [Int.natCast_zero] at hl
    cases hfb : firstBad vb s 0 with
    | some j =>
      rw [hfb] at hl
      obtain ⟨e', g1, g2, g3⟩ := hl
      simp [d77, hce, g1, g2, g3, hsf]
    | none =>
      rw [hfb] at hl
      obtain ⟨e', n', o', g1, g2, g3, g4⟩ := hl
      simp only [Bool.false_eq_true, if_false] at g4
      cases hdv : dv b m vv s 0 with
      | none =>
        rw [hdv] at g4
        simp only at g4
        subst g4
        simp [d77, hce, g1, g2, g3, hsf, e1]
      | some x =>
        rw [hdv] at g4
        obtain ⟨rfl, rfl⟩ := g4
        simp [d77, hce, g1, g2, g3, hsf]
theorem numR_two (b m : Int) (vb : UInt8 → Bool) (vv : UInt8 → Int) (s : List UInt8) : ∃ n e, numR b m vb vv s = [.int .i64 n, e] ∧ (e = .cst .nilIface ∨ ∃ a c, e = flt a c) := by
  unfold numR
  split
  · exact ⟨_, _, rfl, .inr ⟨_, _, rfl⟩⟩
  · split
    · exact ⟨_, _, rfl, .inr ⟨_, _, rfl⟩⟩
    · split
      · exact ⟨_, _, rfl, .inr ⟨_, _, rfl⟩⟩
      · exact ⟨_, _, rfl, .inl rfl⟩

def dgI (c : UInt8) : Int := if isDg c.toNat = true then (c.toNat : Int) - 48 else 0
/-- The decimal number of a text. -/
def decR (m : Int) (s : List UInt8) : List AV := numR 10 m (fun c => isDg c.toNat) dgI s
theorem dgI_lt (c : UInt8) (h : isDg c.toNat = true) : dgI c < 10 := by unfold dgI; rw [if_pos h]; simp [isDg] at h; omega
theorem dgI_ge (c : UInt8) : 0 ≤ dgI c := by
  unfold dgI
  split
  · rename_i h; simp [isDg] at h; omega
  · exact Int.le_refl 0
end Go.Eng.S
