/- Find whole, Few, the reference's Find; HostFinds. No condition. -/
import Derived.Test.YtfpknphncaopkaaDoorHg
namespace Go.Eng.S
open Go Go.Eng
def hasN (w : List UInt8) (l : List (List UInt8)) : Bool := decide (0 ≤ idxF (fun s => s.map low == w) l 0)
def Short (hs : List (List (List UInt8))) : Prop := hs.length ≤ maxLen ∧ ∀ l ∈ hs, l.length ≤ maxLen ∧ ∀ s ∈ l, s.length < 1000000000
theorem find1 (w : List UInt8) (G : Heap) (x y z : AV) (l : List (List UInt8)) (hx : Names x l) (hy : y.isCell = true) (hz : z.isCell = true) (hl : l.length ≤ maxLen) (hs : ∀ s ∈ l, s.length < 1000000000) :
    C T 36 [.agg [x, y, z], .ptr 0 0 0] (⟨[.str w], 0, true⟩ :: G) = some (.bool (hasN w l), ⟨[.str w], 0, true⟩ :: (G ++ [⟨[x, y, z], 0, true⟩])) := by
  rw [q36]
  have h := index_str w (G ++ [⟨[x, y, z], 0, true⟩]) x l hx hl hs
  unfold hasN
  have hg : hget (⟨[.str w], 0, true⟩ :: (G ++ [⟨[x, y, z], 0, true⟩])) (G.length + 1) 0 1 0 = some [x] := by simp [hget]
  simp [d36, hx.cell, hy, hz, hg, h]
theorem idx_host (w : List UInt8) (a : AV) (hs : List (List (List UInt8))) (ha : Hosts a hs) (hsh : Short hs) : ∀ (k i : Nat) (G : Heap), i + k = hs.length →
    ∃ e' G', XL T [1, 7, 8, 9] L35_0 [(1, .fn (.func 36) [] [.ptr 0 0 0]), (7, a), (8, .int .i64 hs.length), (9, .int .i64 i)] (⟨[.str w], 0, true⟩ :: G) = some (if idxF (hasN w) (hs.drop i) i < 0 then .exit 0 else .ret, e', ⟨[.str w], 0, true⟩ :: G') ∧
      (0 ≤ idxF (hasN w) (hs.drop i) i → e'.get 4 = .int .i64 (idxF (hasN w) (hs.drop i) i))
  | 0, i, G, hk => by
    have hdr : hs.drop i = [] := List.drop_eq_nil_of_le (by omega)
    rw [XL_eq, hdr]
    simp (disch := omega) [L35_0, idxF]
  | k + 1, i, G, hk => by
    have hml := hsh.1
    unfold maxLen at hml
    have hlt : i < hs.length := by omega
    have hdr : hs.drop i = hs[i] :: hs.drop (i + 1) := List.drop_eq_getElem_cons hlt
    obtain ⟨cells, x, y, z, rest, rfl, hcd, hn, hy, hz⟩ := ha.at hlt
    obtain ⟨q1, q2⟩ := hsh.2 _ (List.getElem_mem hlt)
    have hx := find1 w (G ++ [⟨[x, y, z], 0, true⟩]) x y z hs[i] hn hy hz q1 q2
    have ih := fun G => idx_host w _ hs ha hsh k (i + 1) G (by omega)
    push_cast at ih
    rw [XL_eq]
    generalize XL T [1, 7, 8, 9] L35_0 = lp at *
    rw [hdr, idxF]
    generalize idxF (hasN w) (hs.drop (i + 1)) (i + 1) = R at *
    have hset1 : hset (⟨[.str w], 0, true⟩ :: (G ++ [⟨[nilS, nilS, nilS], 0, true⟩])) (G.length + 1) 0 0 [x, y, z] = some (⟨[.str w], 0, true⟩ :: (G ++ [⟨[x, y, z], 0, true⟩])) := by simp [hset, splice]
    have hg : hget (⟨[.str w], 0, true⟩ :: (G ++ [⟨[x, y, z], 0, true⟩])) (G.length + 1) 0 3 0 = some [x, y, z] := by simp [hget]
    cases hc : hasN w hs[i] with
    | true =>
      rw [hc] at hx
      simp (disch := omega) [L35_0, hlt, hcd, hset1, hg, hx, hn.cell, hy, hz]
    | false =>
      rw [hc] at hx
      simp (disch := omega) [L35_0, hlt, hcd, hset1, hg, hx, hn.cell, hy, hz]
      simpa using ih _
theorem idxF_neg {α : Type} (p : α → Bool) : ∀ (l : List α) (i : Nat), idxF p l i < 0 → idxF p l i = -1
  | [], _, _ => rfl
  | a :: r, i, h => by
    unfold idxF at h ⊢
    split
    · rename_i hp; rw [if_pos hp] at h; omega
    · rename_i hp; rw [if_neg hp] at h; exact idxF_neg p r _ h
theorem index_host (w : List UInt8) (a : AV) (hs : List (List (List UInt8))) (ha : Hosts a hs) (hsh : Short hs) : ∃ G', C T 35 [a, .fn (.func 36) [] [.ptr 0 0 0]] [⟨[.str w], 0, true⟩] = some (.int .i64 (idxF (hasN w) hs 0), ⟨[.str w], 0, true⟩ :: G') := by
  rw [q35]
  obtain ⟨e', G', g1, g2⟩ := idx_host w a hs ha hsh hs.length 0 [] (by omega)
  refine ⟨G', ?_⟩
  simp only [List.drop_zero, Int.natCast_zero] at g1 g2
  have hneg := idxF_neg (hasN w) hs 0
  have hnil : hs = [] → idxF (hasN w) hs 0 = -1 := by rintro rfl; rfl
  generalize idxF (hasN w) hs 0 = R at *
  rcases ha with ⟨rfl, rfl⟩ | ⟨cells, rfl, hcl, hat⟩
  · obtain rfl := hnil rfl
    simp at g1
    simp [d35, g1]
  · by_cases hc : R < 0
    · rw [if_pos hc] at g1
      rw [hneg hc]
      simp [d35, g1]
    · rw [if_neg hc] at g1
      simp [d35, g1, g2 (by omega)]
def findH (hs : List (List (List UInt8))) (w : List UInt8) : Int := idxF (hasN w) hs 0
theorem find_ok (a : AV) (hs : List (List (List UInt8))) (ha : Hosts a hs) (hsh : Short hs) (s : List UInt8) (hl : s.length < 1000000000) (H : Heap) : C T 17 [a, .str s] H = some (.int .i64 (findH hs (s.map low)), H) := by
  refine anyH fd17 rfl (by simp [closedL, ha.closed, AV.closed]) ?_ H
  rw [q17]
  have h := olower_ok s hl
  obtain ⟨G', hi⟩ := index_host (s.map low) a hs ha hsh
  have hsn : snap 12 [] a = some (a, []) := by
    rcases ha with ⟨rfl, rfl⟩ | ⟨cells, rfl, hcl, hat⟩
    · rfl
    · simp [snap, hcl]
  unfold findH
  simp [d17, hsn, h, hi, hget, hset]

/-! ### the reference's -/
theorem rfind_in (w : List UInt8) (hw : w.length < 1000000000) (a : AV) (hs : List (List (List UInt8))) (ha : Hosts a hs) (hsh : Short hs) (i : Nat) (hi : i < hs.length) : ∀ (k j : Nat), j + k = hs[i].length →
    ∃ e', XL T [0, 1, 5, 6] L18_0 [(0, a), (1, .str w), (5, .int .i64 i), (6, .int .i64 j)] [] = some (if idxF (fun s => s.map low == w.map low) (hs[i].drop j) j < 0 then .exit 2 else .ret, e', []) ∧
      (idxF (fun s => s.map low == w.map low) (hs[i].drop j) j < 0 → e'.get 0 = a ∧ e'.get 1 = .str w ∧ e'.get 5 = .int .i64 i) ∧ (0 ≤ idxF (fun s => s.map low == w.map low) (hs[i].drop j) j → e'.get 4 = .int .i64 i)
  | 0, j, hk => by
    have hdr : hs[i].drop j = [] := List.drop_eq_nil_of_le (by omega)
    obtain ⟨cells, x, y, z, rest, rfl, hcd, hn, hy, hz⟩ := ha.at hi
    rw [XL_eq, hdr]
    rcases hn with ⟨rfl, hnil⟩ | rfl
    · have : j = 0 := by rw [hnil] at hk; simpa using hk
      subst this
      simp (disch := omega) [L18_0, idxF, hcd]
    · simp (disch := omega) [L18_0, idxF, hcd]
  | k + 1, j, hk => by
    have hml := hsh.1
    unfold maxLen at hml
    have hltj : j < hs[i].length := by omega
    obtain ⟨q1, q2⟩ := hsh.2 _ (List.getElem_mem hi)
    unfold maxLen at q1
    have hdr : hs[i].drop j = hs[i][j] :: hs[i].drop (j + 1) := List.drop_eq_getElem_cons hltj
    have hcm : (hs[i].map AV.str).drop j = .str hs[i][j] :: (hs[i].drop (j + 1)).map .str := by rw [← List.map_drop, hdr]; rfl
    have h1 := rlower_ok hs[i][j] (q2 _ (List.getElem_mem hltj))
    have h2 := rlower_ok w hw
    have ih := rfind_in w hw a hs ha hsh i hi k (j + 1) (by omega)
    push_cast at ih
    obtain ⟨cells, x, y, z, rest, rfl, hcd, hn, hy, hz⟩ := ha.at hi
    obtain rfl := Names.at hn hltj
    rw [XL_eq]
    generalize XL T [0, 1, 5, 6] L18_0 = lp at *
    rw [hdr, idxF]
    generalize idxF (fun s => s.map low == w.map low) (hs[i].drop (j + 1)) (j + 1) = R at *
    cases hc : hs[i][j].map low == w.map low with
    | true =>
      simp (disch := omega) [L18_0, hcd, hcm, h1, h2, hc]
    | false =>
      simp (disch := omega) [L18_0, hcd, hcm, h1, h2, hc]
      simpa using ih
end Go.Eng.S
