/- Hexadecimal numbers, sums, fields. No condition. -/
import Derived.Test.YtpdkdkdcmnipfaaGreatDoorKc
namespace Go.Eng.S
open Go Go.Eng
theorem hex_dig : Dig 78 16 hxB hxI where
  base := by decide
  call c := by
    refine ⟨_, hexD_ok c [], fun h => ?_⟩
    unfold hxI
    rfl
  lt c h := rhexD.lt c h
  ge c := rhexD.ge c
theorem parseHex_ok (s : List UInt8) (hs : s.length < 1000000000) (m : Int) (hm0 : 0 ≤ m) (hm : m ≤ 4611686018427387904) (H : Heap) : C T 60 [.str s, .int .i64 m] H = some (.tup (numR 16 m hxB hxI s), H) := by
  refine anyH fd60 rfl rfl ?_ H
  rw [q60]
  have h1 := number_ok hex_dig hm0 hm s hs []
  obtain ⟨n, e, h2, h3⟩ := numR_two 16 m hxB hxI s
  rw [h2] at h1 ⊢
  rcases h3 with rfl | ⟨a, b, rfl⟩ <;> simp [d60, h1]
theorem sum_ok (a b m : Int) (ha : 0 ≤ a) (hb : 0 ≤ b) (hm : m ≤ 2305843009213693952) (hm0 : 0 ≤ m) (hb2 : b ≤ m) (ha2 : a ≤ 2305843009213693952) (H : Heap) :
    C T 61 [.int .i64 a, .int .i64 b, .int .i64 m] H = some (.tup (if m < a + b then [.int .i64 0, .bool false] else [.int .i64 (a + b), .bool true]), H) := by
  refine anyH fd61 rfl rfl ?_ H
  rw [q61]
  by_cases h1 : a > m
  · have h2 : m < a + b := by omega
    simp (disch := omega) [d61, h1, h2]
  · by_cases h2 : b > m - a
    · have h3 : m < a + b := by omega
      simp (disch := omega) [d61, h1, h2, h3]
    · have h3 : ¬ m < a + b := by omega
      simp (disch := omega) [d61, h1, h2, h3]

/-- A field line. -/
def fldOK (s : List UInt8) : Bool := decide (58 ∈ s) && isTok (s.take (cutI 58 s)) && (s.drop (cutI 58 s + 1)).all (clsB 5)
abbrev emp2 : AObj := ⟨[.str [], .str []], 0, true⟩
theorem fparse_loop (n v : List UInt8) (hn : n.length < 1000000000) (hv : v.length < 1000000000) : ∀ (k i : Nat), i + k = v.length →
    ∃ e', XL T [2, 4, 5, 24, 25] L62_0 [(2, .ptr 0 0 0), (4, .str n), (5, .str v), (24, .int .i64 v.length), (25, .int .i64 i)] [emp2] = some (if (v.drop i).all (clsB 5) = true then .exit 0 else .ret, e', [emp2]) ∧ e'.get 2 = .ptr 0 0 0 ∧
      ((v.drop i).all (clsB 5) = true → e'.get 4 = .str n ∧ e'.get 5 = .str v) ∧ ((v.drop i).all (clsB 5) = false → ∃ a, e'.get 3 = flt 400 a)
  | 0, i, hk => by
    have hd : v.drop i = [] := List.drop_eq_nil_of_le (by omega)
    rw [XL_eq, hd]
    simp [L62_0, show ¬ i < v.length by omega]
  | k + 1, i, hk => by
    have hlt : i < v.length := by omega
    have hd : v.drop i = v[i] :: v.drop (i + 1) := List.drop_eq_getElem_cons hlt
    have ih := fparse_loop n v hn hv k (i + 1) (by omega)
    push_cast at ih
    have hc := field_ok v[i] [emp2]
    have hnew := new_ok 400 ((n.length : Int) + 1 + i) [emp2]
    rw [hd, XL_eq, List.all_cons]
    generalize XL T [2, 4, 5, 24, 25] L62_0 = lp at *
    generalize (v.drop (i + 1)).all (clsB 5) = R at *
    cases hh : clsB 5 v[i] with
    | false =>
      rw [hh] at hc
      simp (disch := omega) [L62_0, hlt, hc, hnew, hset]
    | true =>
      rw [hh] at hc
      simp (disch := omega) [L62_0, hlt, hc]
      exact ih
theorem fparse_ok (s : List UInt8) (hs : s.length < 1000000) : ∃ x e, (∀ H, C T 62 [.str s] H = some (.tup [x, e], H)) ∧ (fldOK s = true → e = .cst .nilIface) ∧ (fldOK s = false → ∃ a, e = flt 400 a) := by
  suffices h : ∃ x e, C T 62 [.str s] [] = some (.tup [x, e], []) ∧ (fldOK s = true → e = .cst .nilIface) ∧ (fldOK s = false → ∃ a, e = flt 400 a) by
    obtain ⟨x, e, h1, h2⟩ := h
    exact ⟨x, e, anyH fd62 rfl rfl h1, h2⟩
  rw [q62]
  have hcut := cut1_ok s (by omega) 58 [emp2]
  unfold cutV at hcut
  have hnew := new_ok 400 0 [emp2]
  unfold fldOK
  by_cases hc : 58 ∈ s
  · rw [if_pos hc] at hcut
    have hle := cutI_le 58 s
    have hlt : (s.take (cutI 58 s)).length < 1000000 := by simp; omega
    have hlv : (s.drop (cutI 58 s + 1)).length < 1000000 := by simp; omega
    generalize s.take (cutI 58 s) = n at *
    generalize s.drop (cutI 58 s + 1) = v at *
    have ht := istok_ok n (by omega) [emp2]
    cases htk : isTok n with
    | false =>
      rw [htk] at ht
      refine ⟨.agg [.str [], .str []], flt 400 0, ?_, by simp, fun _ => ⟨0, rfl⟩⟩
      simp (disch := omega) [d62, hcut, ht, hnew, hset, hget]
    | true =>
      rw [htk] at ht
      obtain ⟨e', h1, h2, h3, h4⟩ := fparse_loop n v (by omega) (by omega) v.length 0 (by omega)
      simp only [List.drop_zero, Int.natCast_zero] at h1 h3 h4
      cases ha : v.all (clsB 5) with
      | false =>
        rw [ha] at h1
        obtain ⟨a, h5⟩ := h4 ha
        simp at h1
        refine ⟨.agg [.str [], .str []], flt 400 a, ?_, by simp, fun _ => ⟨a, rfl⟩⟩
        simp (disch := omega) [d62, hcut, ht, hget, h1, h2, h5]
      | true =>
        rw [ha] at h1
        obtain ⟨h5, h6⟩ := h3 ha
        simp only [if_true] at h1
        have hlow := olower_ok n (by omega) [emp2]
        have htr := trim_ok v (by omega) [emp2]
        refine ⟨.agg [.str (n.map low), .str (trimR (trimL v))], .cst .nilIface, ?_, fun _ => rfl, by simp [hc]⟩
        simp (disch := omega) [d62, hcut, ht, hset, hget, h1, h2, h5, h6, hlow, htr]
  · rw [if_neg hc] at hcut
    refine ⟨.agg [.str [], .str []], flt 400 0, ?_, by simp [hc], fun _ => ⟨0, rfl⟩⟩
    simp (disch := omega) [d62, hcut, hnew, hset, hget]
end Go.Eng.S
