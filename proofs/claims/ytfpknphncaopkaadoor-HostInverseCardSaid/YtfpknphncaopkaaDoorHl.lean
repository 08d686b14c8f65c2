/- HostFinds. No condition. -/
import Derived.Test.YtfpknphncaopkaaDoorHk
namespace Go.Eng.S
open Go Go.Eng
theorem idxF_le {α : Type} (p : α → Bool) : ∀ (l : List α) (b i : Nat) (hi : i < l.length), p l[i] = true → (b : Int) ≤ idxF p l b ∧ idxF p l b ≤ (b + i : Nat)
  | a :: r, b, 0, _, h => by
    have h : p a = true := h
    unfold idxF
    rw [if_pos h]
    exact ⟨Int.le_refl _, by simp⟩
  | a :: r, b, i + 1, hi, h => by
    unfold idxF
    split
    · exact ⟨Int.le_refl _, by push_cast; omega⟩
    · have := idxF_le p r (b + 1) i (by simpa using hi) (by simpa using h)
      push_cast at this ⊢
      omega
theorem finds_at (hs : List (List (List UInt8))) (i j : Nat) (hi : i < hs.length) (hj : j < hs[i].length) : 0 ≤ findH hs (hs[i][j].map low) ∧ findH hs (hs[i][j].map low) ≤ i := by
  have h1 : hasN (hs[i][j].map low) hs[i] = true := by
    unfold hasN
    rw [decide_eq_true_eq, idxF_ge]
    exact ⟨_, List.getElem_mem hj, by simp⟩
  have := idxF_le (hasN (hs[i][j].map low)) hs 0 i hi h1
  unfold findH
  push_cast at this
  omega
theorem finds_in (a : AV) (hs : List (List (List UInt8))) (ha : Hosts a hs) (hsh : Short hs) (i : Nat) (hi : i < hs.length) : ∀ (k j : Nat), j + k = hs[i].length →
    ∃ e', XL T [0, 5, 6] L5_0 [(0, a), (5, .int .i64 i), (6, .int .i64 j)] [] = some (.exit 2, e', []) ∧ e'.get 0 = a ∧ e'.get 5 = .int .i64 i
  | 0, j, hk => by
    obtain ⟨cells, x, y, z, rest, rfl, hcd, hn, hy, hz⟩ := ha.at hi
    rw [XL_eq]
    rcases hn with ⟨rfl, hnil⟩ | rfl
    · have : j = 0 := by rw [hnil] at hk; simpa using hk
      subst this
      simp (disch := omega) [L5_0, hcd]
    · simp (disch := omega) [L5_0, hcd]
  | k + 1, j, hk => by
    have hml := hsh.1
    unfold maxLen at hml
    have hltj : j < hs[i].length := by omega
    obtain ⟨q1, q2⟩ := hsh.2 _ (List.getElem_mem hi)
    unfold maxLen at q1
    have hdr : hs[i].drop j = hs[i][j] :: hs[i].drop (j + 1) := List.drop_eq_getElem_cons hltj
    have hcm : (hs[i].map AV.str).drop j = .str hs[i][j] :: (hs[i].drop (j + 1)).map .str := by rw [← List.map_drop, hdr]; rfl
    have hf := find_ok a hs ha hsh hs[i][j] (q2 _ (List.getElem_mem hltj))
    obtain ⟨f1, f2⟩ := finds_at hs i j hi hltj
    have ih := finds_in a hs ha hsh i hi k (j + 1) (by omega)
    push_cast at ih
    obtain ⟨cells, x, y, z, rest, rfl, hcd, hn, hy, hz⟩ := ha.at hi
    obtain rfl := Names.at hn hltj
    rw [XL_eq]
    generalize XL T [0, 5, 6] L5_0 = lp at *
    generalize findH hs (hs[i][j].map low) = F at *
    simp (disch := omega) [L5_0, hcd, hcm, hf]
    exact ih
theorem finds_out (a : AV) (hs : List (List (List UInt8))) (ha : Hosts a hs) (hsh : Short hs) : ∀ (k i : Nat), i + k = hs.length →
    ∃ e', XL T [0, 5] L5_1 [(0, a), (5, .int .i64 i)] [] = some (.exit 0, e', [])
  | 0, i, hk => by
    rw [XL_eq]
    rcases ha with ⟨rfl, rfl⟩ | ⟨cells, rfl, hcl, hat⟩
    · simp at hk
      subst hk
      simp (disch := omega) [L5_1]
    · simp (disch := omega) [L5_1]
  | k + 1, i, hk => by
    have hml := hsh.1
    unfold maxLen at hml
    have hlt : i < hs.length := by omega
    obtain ⟨e1, g1, g2, g3⟩ := finds_in a hs ha hsh i hlt hs[i].length 0 (by omega)
    simp only [Int.natCast_zero] at g1
    have ih := finds_out a hs ha hsh k (i + 1) (by omega)
    push_cast at ih
    obtain ⟨cells, x, y, z, rest, rfl, hcd, hn, hy, hz⟩ := ha.at hlt
    rw [XL_eq]
    generalize XL T [0, 5] L5_1 = lp at *
    simp (disch := omega) [L5_1, g1, g2, g3]
    exact ih
theorem hostFinds (a : AV) (hs : List (List (List UInt8))) (ha : Hosts a hs) (hw : Wide hs) (s : List UInt8) : C T 5 [a, .str s] [] = some (.bool true, []) := by
  rw [q5]
  have hsn := snap_hosts ha
  have hfew := few_ok a hs ha hw
  cases hf : few hs with
  | false =>
    rw [hf] at hfew
    simp [d5, hsn, awake_ok, hfew]
  | true =>
    rw [hf] at hfew
    have hsh := few_short hf
    by_cases hl : 100 < s.length
    · simp (disch := omega) [d5, hsn, awake_ok, hfew]
    · have h1 := find_ok a hs ha hsh s (by omega)
      have h2 := rfind_ok s (by omega) a hs ha hsh
      obtain ⟨e', g1⟩ := finds_out a hs ha hsh hs.length 0 (by omega)
      simp only [Int.natCast_zero] at g1
      simp (disch := omega) [d5, hsn, awake_ok, hfew, h1, h2, g1]
end Go.Eng.S
