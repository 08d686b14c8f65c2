/- The reference's numbers. No condition. -/
import Derived.Test.YtpdkdkdcmnipfaaGreatDoorPc
namespace Go.Eng.S
open Go Go.Eng
theorem isDg_cls (c : UInt8) : clsB 1 c = isDg c.toNat := by
  have := all256 (p := fun n => clsB 1 (UInt8.ofNat n) == isDg n) (by decide +kernel) c
  simpa using this
structure RDig (b : Int) (vb : UInt8 → Bool) (vv : UInt8 → Int) : Prop where
  base : 2 ≤ b ∧ b ≤ 16
  call : ∀ c, C T 51 [.int .u8 c.toNat, .int .i64 b] [] = some (.int .i64 (if vb c = true then vv c else -1), [])
  lt : ∀ c, vb c = true → vv c < b
  ge : ∀ c, 0 ≤ vv c
theorem rdec : RDig 10 (fun c => isDg c.toNat) dgI where
  base := by decide
  call c := by
    rw [q51]
    have h1 := rhex_ok c []
    have h2 := class_ok c 1 (by decide) []
    rw [isDg_cls] at h2
    simp only [Int.cast_ofNat_Int] at h2
    unfold dgI
    cases hc : isDg c.toNat with
    | true =>
      rw [hc] at h2
      have hn : 48 ≤ c.toNat ∧ c.toNat ≤ 57 := by simpa [isDg] using hc
      have h3 : hexI c.toNat = (c.toNat : Int) - 48 := by unfold hexI; rw [if_pos hn]
      rw [h3] at h1
      have h4 : ¬ (10 ≤ (c.toNat : Int) - 48) := by omega
      simp [d51, h1, h2, h4]
    | false =>
      rw [hc] at h2
      generalize hexI c.toNat = x at h1
      by_cases h4 : 10 ≤ x <;> simp [d51, h1, h2, h4]
  lt := dgI_lt
  ge := dgI_ge
def hxB (c : UInt8) : Bool := decide (0 ≤ hexI c.toNat)
def hxI (c : UInt8) : Int := if hexI c.toNat < 0 then 0 else hexI c.toNat
theorem rhexD : RDig 16 hxB hxI where
  base := by decide
  call c := by
    rw [q51]
    have h1 := rhex_ok c []
    have h3 := hexI_lt c.toNat
    unfold hxB hxI
    generalize hexI c.toNat = x at *
    have h4 : ¬ (16 ≤ x) := by omega
    have h5 : (if decide (0 ≤ x) = true then if x < 0 then 0 else x else -1) = x := by
      by_cases hx : 0 ≤ x
      · rw [if_pos (by simpa using hx), if_neg (by omega)]
      · rw [if_neg (by simpa using hx)]; omega
    rw [h5]
    simp [d51, h1, h4]
  lt c h := by
    have h3 := hexI_lt c.toNat
    unfold hxI
    split <;> omega
  ge c := by
    unfold hxI
    split <;> omega

theorem rdig_loop {b : Int} {vb : UInt8 → Bool} {vv : UInt8 → Int} (hd : RDig b vb vv) (m : Int) (s : List UInt8) (hs : s.length < 1000000000) : ∀ (k i : Nat), i + k = s.length →
    ∃ e', XL T [0, 1, 2, 9] L37_1 [(0, .str s), (1, .int .i64 b), (2, .int .i64 m), (9, .int .i64 i)] [] = some (if firstBad vb (s.drop i) i = none then .exit 0 else .ret, e', []) ∧
      (firstBad vb (s.drop i) i = none → e'.get 0 = .str s ∧ e'.get 1 = .int .i64 b ∧ e'.get 2 = .int .i64 m) ∧
      ∀ j, firstBad vb (s.drop i) i = some j → e'.get 6 = .int .i64 0 ∧ e'.get 7 = .int .i64 400 ∧ e'.get 8 = .int .i64 j
  | 0, i, hk => by
    have hdr : s.drop i = [] := List.drop_eq_nil_of_le (by omega)
    rw [XL_eq, hdr]
    simp [L37_1, firstBad, show ¬ i < s.length by omega]
  | k + 1, i, hk => by
    have hlt : i < s.length := by omega
    have hdr : s.drop i = s[i] :: s.drop (i + 1) := List.drop_eq_getElem_cons hlt
    have hx := hd.call s[i]
    have hv0 := hd.ge s[i]
    have ih := rdig_loop hd m s hs k (i + 1) (by omega)
    push_cast at ih
    rw [hdr, XL_eq, firstBad]
    generalize XL T [0, 1, 2, 9] L37_1 = lp at *
    generalize s.drop (i + 1) = R at *
    cases hvb : vb s[i] with
    | false =>
      rw [hvb] at hx
      simp at hx
      simp (disch := omega) [L37_1, hlt, hx]
    | true =>
      rw [hvb] at hx
      simp at hx
      simp only [if_true]
      generalize firstBad vb R (i + 1) = FB at *
      have hn : ¬ vv s[i] < 0 := by omega
      simp (disch := omega) only [L37_1] 
      simp (disch := omega) [hlt, hx, wr64, hn]
      simpa using ih
def rnumPost (b m : Int) (vv : UInt8 → Int) (l : List UInt8) (n : Int) (r : XR) : Prop := match dv b m vv l n with
  | none => ∃ e', r = some (.ret, e', []) ∧ e'.get 6 = .int .i64 0 ∧ e'.get 7 = .int .i64 413 ∧ e'.get 8 = .int .i64 0
  | some x => ∃ e', r = some (.exit 2, e', []) ∧ e'.get 10 = .int .i64 x
theorem rnum_loop {b m : Int} {vb : UInt8 → Bool} {vv : UInt8 → Int} (hd : RDig b vb vv) (hm0 : 0 ≤ m) (hm : m ≤ 4611686018427387904) (s : List UInt8) (hs : s.length < 1000000000) (hall : ∀ c ∈ s, vb c = true) :
    ∀ (k i : Nat) (n : Int), i + k = s.length → 0 ≤ n → n ≤ m →
      rnumPost b m vv (s.drop i) n (XL T [0, 1, 2, 10, 11] L37_0 [(0, .str s), (1, .int .i64 b), (2, .int .i64 m), (10, .int .i64 n), (11, .int .i64 i)] [])
  | 0, i, n, hk, hn0, hn1 => by
    have hdr : s.drop i = [] := List.drop_eq_nil_of_le (by omega)
    rw [XL_eq, hdr]
    simp [L37_0, rnumPost, dv, show ¬ i < s.length by omega]
  | k + 1, i, n, hk, hn0, hn1 => by
    have hlt : i < s.length := by omega
    have hdr : s.drop i = s[i] :: s.drop (i + 1) := List.drop_eq_getElem_cons hlt
    have hvb := hall s[i] (List.getElem_mem hlt)
    have hx := hd.call s[i]
    have hv0 := hd.ge s[i]
    have hvl := hd.lt s[i] hvb
    rw [hvb] at hx
    simp at hx
    obtain ⟨hb2, hb16⟩ := hd.base
    have hb0 : b ≠ 0 := by omega
    have ih := rnum_loop hd hm0 hm s hs hall k (i + 1)
    push_cast at ih
    rw [hdr, XL_eq]
    generalize XL T [0, 1, 2, 10, 11] L37_0 = lp at *
    generalize s.drop (i + 1) = R at *
    have hnp : rnumPost b m vv (s[i] :: R) n = if m < n * b + vv s[i] then (fun r => ∃ e', r = some (.ret, e', []) ∧ e'.get 6 = .int .i64 0 ∧ e'.get 7 = .int .i64 413 ∧ e'.get 8 = .int .i64 0) else rnumPost b m vv R (n * b + vv s[i]) := by
      funext r
      unfold rnumPost
      rw [dv]
      by_cases h : m < n * b + vv s[i]
      · rw [if_pos h, if_pos h]
      · rw [if_neg h, if_neg h]
    rw [hnp]
    clear hnp
    generalize vv s[i] = v at *
    have hq := Int.ediv_le_self (a := m) b hm0
    have hq0 := Int.ediv_nonneg (a := m) (b := b) hm0 (by omega)
    have htd : m.tdiv b = m / b := Int.tdiv_eq_ediv_of_nonneg hm0
    have h3 := Int.mul_nonneg hn0 (by omega : 0 ≤ b)
    have hdm := Int.mul_ediv_add_emod m b
    by_cases h1 : m / b < n
    · have := Int.lt_mul_of_ediv_lt (by omega : 0 < b) h1
      rw [if_pos (by omega)]
      simp (disch := omega) [L37_0, hlt, htd, wr64, hb0, h1]
    · have h4 : n * b ≤ m := by
        have := (Int.le_ediv_iff_mul_le (by omega : 0 < b)).1 (show n ≤ m / b by omega)
        exact this
      by_cases h2 : m < n * b + v
      · rw [if_pos h2]
        simp (disch := omega) [L37_0, hlt, htd, wr64, hb0, h1, hx, h2]
      · rw [if_neg h2]
        have ih := ih (n * b + v) (by omega) (by omega) (by omega)
        simp (disch := omega) [L37_0, hlt, htd, wr64, hb0, h1, hx, h2]
        exact ih
theorem firstBad_none {vb : UInt8 → Bool} : ∀ {l : List UInt8} {i : Nat}, firstBad vb l i = none ↔ ∀ c ∈ l, vb c = true
  | [], _ => by simp [firstBad]
  | c :: r, i => by
    unfold firstBad
    cases h : vb c <;> simp [h, firstBad_none]
def rnumR (b m : Int) (vb : UInt8 → Bool) (vv : UInt8 → Int) (s : List UInt8) : List AV := if s = [] then [.int .i64 0, .int .i64 400, .int .i64 0] else match firstBad vb s 0 with
  | some j => [.int .i64 0, .int .i64 400, .int .i64 j]
  | none => match dv b m vv s 0 with
    | none => [.int .i64 0, .int .i64 413, .int .i64 0]
    | some n => [.int .i64 n, .int .i64 0, .int .i64 0]
theorem rparse_ok {b m : Int} {vb : UInt8 → Bool} {vv : UInt8 → Int} (hd : RDig b vb vv) (hm0 : 0 ≤ m) (hm : m ≤ 4611686018427387904) (s : List UInt8) (hs : s.length < 1000000000) (H : Heap) :
    C T 37 [.str s, .int .i64 b, .int .i64 m] H = some (.tup (rnumR b m vb vv s), H) := by
  refine anyH fd37 rfl rfl ?_ H
  rw [q37]
  by_cases hc : s = []
  · subst hc
    simp [d37, rnumR]
  · rw [rnumR, if_neg hc]
    have hce : s.length ≠ 0 := by simpa using hc
    have hce' : ((s.length : Int) == 0) = false := by rw [beq_eq_false_iff_ne]; omega
    obtain ⟨e', g1, g2, g3⟩ := rdig_loop hd m s hs s.length 0 (by omega)
    simp only [List.drop_zero, Int.natCast_zero] at g1 g2 g3
    cases hfb : firstBad vb s 0 with
    | some j =>
      obtain ⟨i1, i2, i3⟩ := g3 j hfb
      rw [hfb] at g1
      simp at g1
      simp [d37, hce', g1, i1, i2, i3]
    | none =>
      obtain ⟨i1, i2, i3⟩ := g2 hfb
      rw [hfb] at g1
      simp only [if_true] at g1
      have hr := rnum_loop hd hm0 hm s hs (firstBad_none.1 hfb) s.length 0 0 (by omega) (by omega) hm0
      rw [List.drop_zero] at hr
      unfold rnumPost at hr
      simp only [Int.natCast_zero] at hr
      cases hdv : dv b m vv s 0 with
      | none =>
        rw [hdv] at hr
        obtain ⟨e2, j1, j2, j3, j4⟩ := hr
        simp [d37, hce', g1, i1, i2, i3, j1, j2, j3, j4]
      | some x =>
        rw [hdv] at hr
        obtain ⟨e2, j1, j2⟩ := hr
        simp [d37, hce', g1, i1, i2, i3, j1, j2]
/-- A number, or none. -/
def decO (m : Int) (s : List UInt8) : Option Int := if s = [] then none else match firstBad (fun c => isDg c.toNat) s 0 with
  | some _ => none
  | none => dv 10 m dgI s 0
theorem decR_some {m : Int} {s : List UInt8} {n : Int} (h : decO m s = some n) : decR m s = [.int .i64 n, .cst .nilIface] := by
  unfold decO at h
  unfold decR numR
  split at h
  · cases h
  · rename_i hs
    rw [if_neg hs]
    split at h
    · cases h
    · rename_i hf
      rw [hf]
      simp only
      rw [h]
theorem decR_none {m : Int} {s : List UInt8} (h : decO m s = none) : ∃ a c : Int, decR m s = [.int .i64 0, flt a c] := by
  unfold decO at h
  unfold decR numR
  split at h
  · rename_i hs
    exact ⟨_, _, if_pos hs⟩
  · rename_i hs
    rw [if_neg hs]
    split at h
    · rename_i hf
      rw [hf]
      exact ⟨_, _, rfl⟩
    · rename_i hf
      rw [hf]
      simp only
      rw [h]
      exact ⟨_, _, rfl⟩
end Go.Eng.S
