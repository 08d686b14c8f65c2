/- The reference's fields and sizes. No condition. -/
import Derived.Test.YtpdkdkdcmnipfaaGreatDoorKl
namespace Go.Eng.S
open Go Go.Eng
theorem rcolon_loop (s : List UInt8) (hs : s.length < 1000000000) : ∀ (k i : Nat), i + k = s.length →
    ∃ e', XL T [0, 2, 4] L25_1 [(0, .str s), (2, .ptr 0 0 0), (4, .int .i64 i)] [emp2] = some (.exit 0, e', [emp2]) ∧ e'.get 0 = .str s ∧ e'.get 2 = .ptr 0 0 0 ∧ e'.get 4 = .int .i64 (i + cutI 58 (s.drop i) : Nat)
  | 0, i, hk => by
    have hd : s.drop i = [] := List.drop_eq_nil_of_le (by omega)
    rw [XL_eq, hd]
    simp [L25_1, cutI_nil, show ¬ i < s.length by omega]
  | k + 1, i, hk => by
    have hlt : i < s.length := by omega
    have hlt' : (i : Int) < s.length := by omega
    have hd : s.drop i = s[i] :: s.drop (i + 1) := List.drop_eq_getElem_cons hlt
    have ih := rcolon_loop s hs k (i + 1) (by omega)
    have e58 := u8_eqlit s[i] 58 58 rfl
    rw [hd, XL_eq, cutI_cons]
    generalize XL T [0, 2, 4] L25_1 = lp at *
    generalize cutI 58 (s.drop (i + 1)) = N at *
    have eN : i + 1 + N = i + (N + 1) := by omega
    rw [eN] at ih
    push_cast at ih
    by_cases h1 : s[i] = 58
    · have e1 : ((s[i].toNat : Int) != 58) = false := by rw [bne, e58, h1]; rfl
      rw [if_pos h1]
      simp (disch := omega) [L25_1, hlt', e1]
    · have e1 : ((s[i].toNat : Int) != 58) = true := by rw [bne, e58]; simpa using h1
      rw [if_neg h1]
      simp (disch := omega) [L25_1, hlt', e1]
      exact ih
theorem rfcls_loop (s : List UInt8) (hs : s.length < 1000000000) (a : Nat) : ∀ (k i : Nat), i + k = s.length →
    ∃ e', XL T [0, 2, 4, 5] L25_0 [(0, .str s), (2, .ptr 0 0 0), (4, .int .i64 a), (5, .int .i64 i)] [emp2] = some (if (s.drop i).all (clsB 5) = true then .exit 2 else .ret, e', [emp2]) ∧ e'.get 2 = .ptr 0 0 0 ∧
      ((s.drop i).all (clsB 5) = true → e'.get 0 = .str s ∧ e'.get 4 = .int .i64 a) ∧ ((s.drop i).all (clsB 5) = false → ∃ n : Nat, e'.get 3 = .int .i64 n)
  | 0, i, hk => by
    have hd : s.drop i = [] := List.drop_eq_nil_of_le (by omega)
    rw [XL_eq, hd]
    simp [L25_0, show ¬ i < s.length by omega]
  | k + 1, i, hk => by
    have hlt : i < s.length := by omega
    have hlt' : (i : Int) < s.length := by omega
    have hd : s.drop i = s[i] :: s.drop (i + 1) := List.drop_eq_getElem_cons hlt
    have ih := rfcls_loop s hs a k (i + 1) (by omega)
    push_cast at ih
    have hc := class_ok s[i] 5 (by decide) [emp2]
    simp only [Int.cast_ofNat_Int] at hc
    rw [hd, XL_eq, List.all_cons]
    generalize XL T [0, 2, 4, 5] L25_0 = lp at *
    generalize (s.drop (i + 1)).all (clsB 5) = R at *
    cases hh : clsB 5 s[i] with
    | false =>
      rw [hh] at hc
      simp (disch := omega) [L25_0, hlt', hc, hset]
      exact ⟨i, rfl⟩
    | true =>
      rw [hh] at hc
      simp (disch := omega) [L25_0, hlt', hc]
      exact ih
theorem rfparse_ok (s : List UInt8) (hs : s.length < 1000000) : ∃ (a b : List UInt8) (n : Int), (∀ H, C T 25 [.str s] H = some (.tup [.agg [.str a, .str b], .int .i64 n], H)) ∧ (fldOK s = true → n = -1) ∧ (fldOK s = false → 0 ≤ n) := by
  suffices h : ∃ (a b : List UInt8) (n : Int), C T 25 [.str s] [] = some (.tup [.agg [.str a, .str b], .int .i64 n], []) ∧ (fldOK s = true → n = -1) ∧ (fldOK s = false → 0 ≤ n) by
    obtain ⟨a, b, n, h1, h2⟩ := h
    exact ⟨a, b, n, anyH fd25 rfl rfl h1, h2⟩
  rw [q25]
  obtain ⟨e1, h1, h2, h3, h4⟩ := rcolon_loop s (by omega) s.length 0 (by omega)
  simp only [List.drop_zero, Int.natCast_zero, Nat.zero_add] at h1 h4
  have hle := cutI_le 58 s
  have ht := ristok_ok (s.take (cutI 58 s)) (by simp; omega) [emp2]
  have hlow := rlower_ok (s.take (cutI 58 s)) (by simp; omega) [emp2]
  have htr := rtrim_ok (s.drop (cutI 58 s + 1)) (by simp; omega) [emp2]
  unfold fldOK
  by_cases hc : 58 ∈ s
  · have hlt := cutI_lt.1 hc
    obtain ⟨e2, g1, g2, g3, g4⟩ := rfcls_loop s (by omega) (cutI 58 s) (s.length - (cutI 58 s + 1)) (cutI 58 s + 1) (by omega)
    generalize cutI 58 s = n at *
    have hne : ((n : Int) == s.length) = false := by rw [beq_eq_false_iff_ne]; omega
    push_cast at g1
    cases htk : isTok (s.take n) with
    | false =>
      rw [htk] at ht
      refine ⟨[], [], 0, ?_, by simp, fun _ => Int.le_refl 0⟩
      simp at hne
      simp (disch := omega) [d25, h1, h2, h3, h4, ht, hset, hget]
    | true =>
      rw [htk] at ht
      simp at hne
      cases ha : (s.drop (n + 1)).all (clsB 5) with
      | false =>
        rw [ha] at g1
        obtain ⟨m, g5⟩ := g4 ha
        simp at g1
        refine ⟨[], [], m, ?_, by simp, fun _ => by omega⟩
        simp (disch := omega) [d25, h1, h2, h3, h4, ht, hget, g1, g2, g5]
      | true =>
        rw [ha] at g1
        obtain ⟨g5, g6⟩ := g3 ha
        simp only [if_true] at g1
        refine ⟨(s.take n).map low, trimR (trimL (s.drop (n + 1))), -1, ?_, fun _ => rfl, by simp [hc]⟩
        simp (disch := omega) [d25, h1, h2, h3, h4, ht, hset, hget, g1, g2, g5, g6, hlow, htr]
  · have hge : cutI 58 s = s.length := by
      have := mt cutI_lt.2 hc
      omega
    rw [hge] at h4
    refine ⟨[], [], 0, ?_, by simp [hc], fun _ => Int.le_refl 0⟩
    simp (disch := omega) [d25, h1, h2, h3, h4, hset, hget]
end Go.Eng.S
