/- The reference's sizes and lines. No condition. -/
import Derived.Test.YtpdkdkdcmnipfaaGreatDoorKm
import Derived.Test.YtpdkdkdcmnipfaaGreatDoorKe
import Derived.Test.YtpdkdkdcmnipfaaGreatDoorKi
namespace Go.Eng.S
open Go Go.Eng
def semiP (s : List UInt8) (m b : Nat) (i : Nat) (x : XR) : Prop :=
  if 59 ∈ s.drop i then
    (if (s.drop (i + cutI 59 (s.drop i) + 1)).all (clsB 5) = true then ∃ e', x = some (.exit 0, e', []) ∧ e'.get 8 = .str (s.take (i + cutI 59 (s.drop i))) ∧ e'.get 1 = .int .i64 m ∧ e'.get 2 = .int .i64 b
    else ∃ e', x = some (.ret, e', []) ∧ e'.get 6 = .int .i64 0 ∧ e'.get 7 = .int .i64 400)
  else ∃ e', x = some (.exit 0, e', []) ∧ e'.get 8 = .str s ∧ e'.get 1 = .int .i64 m ∧ e'.get 2 = .int .i64 b
theorem semi_loop (s : List UInt8) (hs : s.length < 1000000000) (m b : Nat) : ∀ (k i : Nat), i + k = s.length →
    semiP s m b i (XL T [0, 1, 2, 8, 9] L24_1 [(0, .str s), (1, .int .i64 m), (2, .int .i64 b), (8, .str s), (9, .int .i64 i)] [])
  | 0, i, hk => by
    have hd : s.drop i = [] := List.drop_eq_nil_of_le (by omega)
    rw [XL_eq]
    unfold semiP
    rw [hd]
    simp [L24_1, show ¬ i < s.length by omega]
  | k + 1, i, hk => by
    have hlt : i < s.length := by omega
    have hlt' : (i : Int) < s.length := by omega
    have hd : s.drop i = s[i] :: s.drop (i + 1) := List.drop_eq_getElem_cons hlt
    have ih := semi_loop s hs m b k (i + 1) (by omega)
    have e59 := u8_eqlit s[i] 59 59 rfl
    rw [XL_eq]
    generalize XL T [0, 1, 2, 8, 9] L24_1 = lp at *
    by_cases h1 : s[i] = 59
    · have hz : cutI 59 (s.drop i) = 0 := by rw [hd, cutI_cons, if_pos h1]
      have hin : 59 ∈ s.drop i := by rw [hd, h1]; simp
      have hal := rall_ok 5 (by decide) (s.drop (i + 1)) (by simp; omega) []
      simp only [Int.cast_ofNat_Int] at hal
      unfold semiP
      rw [if_pos hin, hz, Nat.add_zero]
      cases ha : (s.drop (i + 1)).all (clsB 5) with
      | false =>
        rw [ha] at hal
        simp (disch := omega) [L24_1, hlt', h1, hal]
      | true =>
        rw [ha] at hal
        simp (disch := omega) [L24_1, hlt', h1, hal]
    · have e1 : ((s[i].toNat : Int) == 59) = false := by rw [e59]; simpa using h1
      have hN : cutI 59 (s.drop i) = cutI 59 (s.drop (i + 1)) + 1 := by rw [hd, cutI_cons, if_neg h1]
      have hin : (59 ∈ s.drop i) = (59 ∈ s.drop (i + 1)) := by rw [hd, List.mem_cons]; simp [Ne.symm h1]
      have hsp : semiP s m b i = semiP s m b (i + 1) := by
        funext x
        unfold semiP
        have eN : i + (cutI 59 (s.drop (i + 1)) + 1) = i + 1 + cutI 59 (s.drop (i + 1)) := by omega
        rw [hN, eN]
        simp only [hin]
      rw [hsp]
      push_cast at ih
      simp (disch := omega) [L24_1, hlt', e1]
      exact ih
theorem rszt_loop (m b : Nat) : ∀ (n : Nat) (s : List UInt8), s.length = n → s.length < 1000000000 →
    ∃ e', XL T [1, 2, 8] L24_0 [(1, .int .i64 m), (2, .int .i64 b), (8, .str s)] [] = some (.exit 2, e', []) ∧ e'.get 8 = .str (trimR s) ∧ e'.get 1 = .int .i64 m ∧ e'.get 2 = .int .i64 b
  | 0, s, h, _ => by
    obtain rfl := List.length_eq_zero_iff.1 h
    rw [XL_eq]
    simp [L24_0, trimR_nil]
  | n + 1, s, h, hs => by
    obtain ⟨t, c, rfl, ht⟩ := snoc_of h
    have ih := rszt_loop m b n t ht (by simp at hs; omega)
    have e32 := u8_eqlit c 32 32 rfl
    have e9 := u8_eqlit c 9 9 rfl
    have e1 : ((t.length : Int) + 1 - 1) = t.length := by omega
    have e0 : (0 : Int) < (t.length : Int) + 1 := by omega
    rw [XL_eq, trimR_app]
    generalize XL T [1, 2, 8] L24_0 = lp at *
    simp only [List.length_append, List.length_singleton] at hs
    by_cases h1 : c = 32
    · rw [if_pos (blk_32 _ h1)]
      simp (disch := omega) [L24_0, snoc_get, e0, e1, h1]
      exact ih
    · by_cases h2 : c = 9
      · subst h2
        rw [if_pos (blk_9 _ rfl)]
        simp (disch := omega) [L24_0, e0, e1]
        exact ih
      · rw [if_neg (by rw [blk_no _ h1 h2]; simp)]
        simp (disch := omega) [L24_0, e0, e1, e32, e9, h1, h2]
def rszV : Nat ⊕ Nat → List AV
  | .inl st => [.int .i64 0, .int .i64 st]
  | .inr n => [.int .i64 n, .int .i64 0]
theorem rsize_ok (s : List UInt8) (hs : s.length < 1000000) (m b : Nat) (hm : m ≤ 1099511627776) (hb : b ≤ 1099511627776) (H : Heap) : C T 24 [.str s, .int .i64 m, .int .i64 b] H = some (.tup (rszV (dsz m s b)), H) := by
  refine anyH fd24 rfl rfl ?_ H
  rw [q24]
  have h := semi_loop s (by omega) m b s.length 0 (by omega)
  unfold semiP at h
  simp only [List.drop_zero, Int.natCast_zero, Nat.zero_add] at h
  have hle := cutI_le 59 s
  -- the text, and whether the rest is right
  have key : (if 59 ∈ s then (s.drop (cutI 59 s + 1)).all (clsB 5) else true) = false ∧ (∃ e', XL T [0, 1, 2, 8, 9] L24_1 [(0, .str s), (1, .int .i64 m), (2, .int .i64 b), (8, .str s), (9, .int .i64 0)] [] = some (.ret, e', []) ∧ e'.get 6 = .int .i64 0 ∧ e'.get 7 = .int .i64 400) ∨
      (if 59 ∈ s then (s.drop (cutI 59 s + 1)).all (clsB 5) else true) = true ∧ (∃ e', XL T [0, 1, 2, 8, 9] L24_1 [(0, .str s), (1, .int .i64 m), (2, .int .i64 b), (8, .str s), (9, .int .i64 0)] [] = some (.exit 0, e', []) ∧ e'.get 8 = .str (if 59 ∈ s then s.take (cutI 59 s) else s) ∧ e'.get 1 = .int .i64 m ∧ e'.get 2 = .int .i64 b) := by
    by_cases hc : 59 ∈ s
    · simp only [hc, if_true] at h ⊢
      cases ha : (s.drop (cutI 59 s + 1)).all (clsB 5) with
      | false => rw [ha] at h; simp only [Bool.false_eq_true, if_false] at h; exact .inl ⟨rfl, h⟩
      | true => rw [ha] at h; simp only [if_true] at h; exact .inr ⟨rfl, h⟩
    · simp only [hc, if_false] at h ⊢
      exact .inr ⟨trivial, h⟩
  clear h
  have htl : (if 59 ∈ s then s.take (cutI 59 s) else s).length ≤ s.length := by split <;> simp; omega
  unfold dsz
  generalize (if 59 ∈ s then (s.drop (cutI 59 s + 1)).all (clsB 5) else true) = A at *
  generalize (if 59 ∈ s then s.take (cutI 59 s) else s) = text at *
  rcases key with ⟨rfl, e', g1, g2, g3⟩ | ⟨rfl, e', g1, g2, g3, g4⟩
  · simp [d24, g1, g2, g3, rszV]
  · obtain ⟨e2, f1, f2, f3, f4⟩ := rszt_loop m b _ text rfl (by omega)
    have htr := trimR_len _ text rfl
    have hp := rparse_ok rhexD (m := m) (by omega) (by omega) (trimR text) (by omega) []
    generalize trimR text = t at *
    simp only [Bool.true_eq_false, if_false]
    unfold rnumR at hp
    by_cases ht : t = []
    · rw [if_pos ht] at hp ⊢
      simp [d24, g1, g2, g3, g4, f1, f2, f3, f4, rszV, hp]
    rw [if_neg ht] at hp ⊢
    cases hf : firstBad hxB t 0 with
    | some q =>
      rw [hf] at hp
      simp [d24, g1, g2, g3, g4, f1, f2, f3, f4, rszV, hp]
    | none =>
      rw [hf] at hp
      simp only at hp ⊢
      cases hd : dv 16 m hxI t 0 with
      | none =>
        rw [hd] at hp
        simp [d24, g1, g2, g3, g4, f1, f2, f3, f4, rszV, hp]
      | some n =>
        rw [hd] at hp
        have hn1 := dv_le (by omega) hd
        have hn0 := dv_ge (by omega) rhexD.ge (Int.le_refl 0) hd
        obtain ⟨q, rfl⟩ : ∃ q : Nat, n = q := ⟨n.toNat, by omega⟩
        simp only at hp ⊢
        by_cases hov : (m : Int) < b + q
        · rw [if_pos hov]
          simp (disch := omega) [d24, g1, g2, g3, g4, f1, f2, f3, f4, rszV, hp, hov]
        · rw [if_neg hov]
          simp (disch := omega) [d24, g1, g2, g3, g4, f1, f2, f3, f4, rszV, hp, hov]
theorem limit_ok (n : Int) (H : Heap) : C T 23 [.int .i64 n] H = some (.int .i64 (n.toNat : Nat), H) := by
  refine anyH fd23 rfl rfl ?_ H
  rw [q23]
  have e : ((n.toNat : Nat) : Int) = if n < 0 then 0 else n := by split <;> omega
  rw [e]
  simp [d23]
end Go.Eng.S
