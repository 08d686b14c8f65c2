/- HostFinds, the plain law. No condition. -/
import Derived.Test.YtfpknphncaopkaaDoorHh
namespace Go.Eng.S
open Go Go.Eng
theorem snap_hosts {a : AV} {hs : List (List (List UInt8))} (ha : Hosts a hs) (k : Nat) (H : Heap) : snap (k + 1) H a = some (a, H) := by
  rcases ha with ⟨rfl, rfl⟩ | ⟨cells, rfl, hcl, hat⟩
  · rfl
  · simp [snap, hcl]
theorem rfind_out (w : List UInt8) (hw : w.length < 1000000000) (a : AV) (hs : List (List (List UInt8))) (ha : Hosts a hs) (hsh : Short hs) : ∀ (k i : Nat), i + k = hs.length →
    ∃ e', XL T [0, 1, 5] L18_1 [(0, a), (1, .str w), (5, .int .i64 i)] [] = some (if idxF (hasN (w.map low)) (hs.drop i) i < 0 then .exit 0 else .ret, e', []) ∧
      (0 ≤ idxF (hasN (w.map low)) (hs.drop i) i → e'.get 4 = .int .i64 (idxF (hasN (w.map low)) (hs.drop i) i))
  | 0, i, hk => by
    have hdr : hs.drop i = [] := List.drop_eq_nil_of_le (by omega)
    rw [XL_eq, hdr]
    rcases ha with ⟨rfl, rfl⟩ | ⟨cells, rfl, hcl, hat⟩
    · simp at hk
      subst hk
      simp (disch := omega) [L18_1, idxF]
    · simp (disch := omega) [L18_1, idxF]
  | k + 1, i, hk => by
    have hml := hsh.1
    unfold maxLen at hml
    have hlt : i < hs.length := by omega
    have hdr : hs.drop i = hs[i] :: hs.drop (i + 1) := List.drop_eq_getElem_cons hlt
    obtain ⟨e1, g1, g2, g3⟩ := rfind_in w hw a hs ha hsh i hlt hs[i].length 0 (by omega)
    simp only [List.drop_zero, Int.natCast_zero] at g1 g2 g3
    have ih := rfind_out w hw a hs ha hsh k (i + 1) (by omega)
    push_cast at ih
    obtain ⟨cells, x, y, z, rest, rfl, hcd, hn, hy, hz⟩ := ha.at hlt
    rw [XL_eq]
    generalize XL T [0, 1, 5] L18_1 = lp at *
    rw [hdr, idxF]
    generalize idxF (hasN (w.map low)) (hs.drop (i + 1)) (i + 1) = R at *
    have hh : hasN (w.map low) hs[i] = decide (0 ≤ idxF (fun s => s.map low == w.map low) hs[i] 0) := rfl
    rw [hh]
    generalize idxF (fun s => s.map low == w.map low) hs[i] 0 = Q at *
    by_cases hc : Q < 0
    · rw [if_pos hc] at g1
      obtain ⟨i0, i1, i5⟩ := g2 hc
      have hq : ¬ 0 ≤ Q := by omega
      simp (disch := omega) [L18_1, g1, i0, i1, i5, hq]
      exact ih
    · rw [if_neg hc] at g1
      have hq : 0 ≤ Q := by omega
      have g3 := g3 hq
      simp (disch := omega) [L18_1, g1, g3, hq]
theorem rfind_ok (w : List UInt8) (hw : w.length < 1000000000) (a : AV) (hs : List (List (List UInt8))) (ha : Hosts a hs) (hsh : Short hs) (H : Heap) : C T 18 [a, .str w] H = some (.int .i64 (findH hs (w.map low)), H) := by
  refine anyH fd18 rfl (by simp [closedL, ha.closed, AV.closed]) ?_ H
  rw [q18]
  obtain ⟨e', g1, g2⟩ := rfind_out w hw a hs ha hsh hs.length 0 (by omega)
  simp only [List.drop_zero, Int.natCast_zero] at g1 g2
  have hneg := idxF_neg (hasN (w.map low)) hs 0
  have hsn := snap_hosts ha
  unfold findH
  generalize idxF (hasN (w.map low)) hs 0 = R at *
  by_cases hc : R < 0
  · rw [if_pos hc] at g1
    rw [hneg hc]
    simp [d18, hsn, g1]
  · rw [if_neg hc] at g1
    simp [d18, hsn, g1, g2 (by omega)]

/-! ### Few -/
def okN (l : List (List UInt8)) : Bool := decide (l.length ≤ 10) && l.all fun s => decide (s.length ≤ 100)
def Wide (hs : List (List (List UInt8))) : Prop := hs.length ≤ maxLen ∧ ∀ l ∈ hs, l.length ≤ maxLen
theorem few_in (a : AV) (hs : List (List (List UInt8))) (ha : Hosts a hs) (i : Nat) (hi : i < hs.length) (hl : hs[i].length ≤ 10) : ∀ (k j : Nat), j + k = hs[i].length →
    ∃ e', XL T [0, 3, 4] L16_0 [(0, a), (3, .int .i64 i), (4, .int .i64 j)] [] = some (if ((hs[i].drop j).all fun s => decide (s.length ≤ 100)) = true then .exit 2 else .ret, e', []) ∧
      (((hs[i].drop j).all fun s => decide (s.length ≤ 100)) = true → e'.get 0 = a ∧ e'.get 3 = .int .i64 i) ∧ (((hs[i].drop j).all fun s => decide (s.length ≤ 100)) = false → e'.get 2 = .bool false)
  | 0, j, hk => by
    have hdr : hs[i].drop j = [] := List.drop_eq_nil_of_le (by omega)
    obtain ⟨cells, x, y, z, rest, rfl, hcd, hn, hy, hz⟩ := ha.at hi
    rw [XL_eq, hdr]
    rcases hn with ⟨rfl, hnil⟩ | rfl
    · have : j = 0 := by rw [hnil] at hk; simpa using hk
      subst this
      simp (disch := omega) [L16_0, hcd]
    · simp (disch := omega) [L16_0, hcd]
  | k + 1, j, hk => by
    have hltj : j < hs[i].length := by omega
    have hdr : hs[i].drop j = hs[i][j] :: hs[i].drop (j + 1) := List.drop_eq_getElem_cons hltj
    have hcm : (hs[i].map AV.str).drop j = .str hs[i][j] :: (hs[i].drop (j + 1)).map .str := by rw [← List.map_drop, hdr]; rfl
    have ih := few_in a hs ha i hi hl k (j + 1) (by omega)
    push_cast at ih
    obtain ⟨cells, x, y, z, rest, rfl, hcd, hn, hy, hz⟩ := ha.at hi
    obtain rfl := Names.at hn hltj
    rw [XL_eq]
    generalize XL T [0, 3, 4] L16_0 = lp at *
    rw [hdr, List.all_cons]
    generalize ((hs[i].drop (j + 1)).all fun s => decide (s.length ≤ 100)) = R at *
    by_cases hc : hs[i][j].length ≤ 100
    · simp (disch := omega) [L16_0, hcd, hcm, hc]
      simpa using ih
    · simp (disch := omega) [L16_0, hcd, hcm, hc]
theorem few_out (a : AV) (hs : List (List (List UInt8))) (ha : Hosts a hs) (hw : Wide hs) : ∀ (k i : Nat), i + k = hs.length →
    ∃ e', XL T [0, 3] L16_1 [(0, a), (3, .int .i64 i)] [] = some (if (hs.drop i).all okN = true then .exit 0 else .ret, e', []) ∧
      ((hs.drop i).all okN = true → e'.get 0 = a) ∧ ((hs.drop i).all okN = false → e'.get 2 = .bool false)
  | 0, i, hk => by
    have hdr : hs.drop i = [] := List.drop_eq_nil_of_le (by omega)
    rw [XL_eq, hdr]
    rcases ha with ⟨rfl, rfl⟩ | ⟨cells, rfl, hcl, hat⟩
    · simp at hk
      subst hk
      simp (disch := omega) [L16_1]
    · simp (disch := omega) [L16_1]
  | k + 1, i, hk => by
    have hml := hw.1
    unfold maxLen at hml
    have hlt : i < hs.length := by omega
    have hll := hw.2 _ (List.getElem_mem hlt)
    unfold maxLen at hll
    have hdr : hs.drop i = hs[i] :: hs.drop (i + 1) := List.drop_eq_getElem_cons hlt
    have g := few_in a hs ha i hlt
    have ih := few_out a hs ha hw k (i + 1) (by omega)
    push_cast at ih
    obtain ⟨cells, x, y, z, rest, rfl, hcd, hn, hy, hz⟩ := ha.at hlt
    rw [XL_eq]
    generalize XL T [0, 3] L16_1 = lp at *
    rw [hdr, List.all_cons, okN]
    generalize (hs.drop (i + 1)).all okN = R at *
    by_cases hc : hs[i].length ≤ 10
    · obtain ⟨e1, g1, g2, g3⟩ := g hc hs[i].length 0 (by omega)
      simp only [List.drop_zero, Int.natCast_zero] at g1 g2 g3
      generalize (hs[i].all fun s => decide (s.length ≤ 100)) = Q at *
      cases Q with
      | true =>
        obtain ⟨i0, i3⟩ := g2 rfl
        simp only [if_true] at g1
        rcases hn with ⟨rfl, hnil⟩ | rfl
        · simp (disch := omega) [L16_1, hcd, g1, i0, i3, hc]
          simpa using ih
        · simp (disch := omega) [L16_1, hcd, g1, i0, i3, hc]
          simpa using ih
      | false =>
        have g3 := g3 rfl
        simp at g1
        rcases hn with ⟨rfl, hnil⟩ | rfl
        · simp (disch := omega) [L16_1, hcd, g1, g3, hc]
        · simp (disch := omega) [L16_1, hcd, g1, g3, hc]
    · rcases hn with ⟨rfl, hnil⟩ | rfl
      · rw [hnil] at hc; simp at hc
      · simp (disch := omega) [L16_1, hcd, hc]
def few (hs : List (List (List UInt8))) : Bool := hs.all okN && decide (hs.length ≤ 10)
theorem few_ok (a : AV) (hs : List (List (List UInt8))) (ha : Hosts a hs) (hw : Wide hs) (H : Heap) : C T 16 [a] H = some (.bool (few hs), H) := by
  refine anyH fd16 rfl (by simp [closedL, ha.closed]) ?_ H
  rw [q16]
  obtain ⟨e', g1, g2, g3⟩ := few_out a hs ha hw hs.length 0 (by omega)
  simp only [List.drop_zero, Int.natCast_zero] at g1 g2 g3
  have hsn := snap_hosts ha
  unfold few
  cases hb : hs.all okN with
  | true =>
    rw [hb] at g1
    have g2 := g2 hb
    simp only [if_true] at g1
    rcases ha with ⟨rfl, rfl⟩ | ⟨cells, rfl, hcl, hat⟩
    · simp (disch := omega) [d16, g1, g2]
    · by_cases hc : hs.length ≤ 10
      · simp (disch := omega) [d16, hsn, g1, g2, hc]
      · simp (disch := omega) [d16, hsn, g1, g2, hc]
  | false =>
    rw [hb] at g1
    have g3 := g3 hb
    simp at g1
    simp [d16, hsn, g1, g3]
theorem few_short {hs : List (List (List UInt8))} (hf : few hs = true) : Short hs := by
  unfold few at hf
  simp only [Bool.and_eq_true, List.all_eq_true, decide_eq_true_eq] at hf
  refine ⟨by unfold maxLen; omega, fun l hl => ?_⟩
  have := hf.1 l hl
  unfold okN at this
  simp only [Bool.and_eq_true, List.all_eq_true, decide_eq_true_eq] at this
  exact ⟨by unfold maxLen; omega, fun s hs => by have := this.2 s hs; omega⟩
end Go.Eng.S
