/- Lists of strings: compared, few. No condition. -/
import Derived.Test.YtdffpjbjpfolfaaGreatDoorGc
namespace Go.Eng.S
open Go Go.Eng
abbrev Seg := List UInt8
/-- The cells of strings. -/
def scells (l : List Seg) : List AV := l.map .str
theorem sc_len (l : List Seg) : (scells l).length = l.length := by simp [scells]
theorem sc_drop (l : List Seg) (i : Nat) (h : i < l.length) : (scells l).drop i = .str l[i] :: (scells l).drop (i + 1) := by
  rw [List.drop_eq_getElem_cons (by simpa [scells] using h)]
  simp [scells]
theorem closedL_str : ∀ l : List Seg, closedL (l.map .str) = true
  | [] => rfl
  | a :: l => by simp [AV.closed, closedL_str l]
theorem sc_closed (l : List Seg) : closedL (scells l) = true := closedL_str l
theorem sc_cell (l : List Seg) : (scells l).all AV.isCell = true := by simp [scells]
theorem sc_app (l m : List Seg) : scells (l ++ m) = scells l ++ scells m := by simp [scells]
theorem sc_take (l : List Seg) : (scells l).take l.length = scells l := List.take_of_length_le (by simp [scells])
abbrev nls : AV := .cst (.slice none 0 0)
abbrev slS (l : List Seg) : AV := .sl false l.length 1 (scells l)
theorem names_two {a : AV} {l : List Seg} (h : Names a l) : (l = [] ∧ a = nls) ∨ a = slS l := by
  rcases h with ⟨h1, h2⟩ | h
  · exact .inl ⟨h2, h1⟩
  · exact .inr h
theorem snap_slS (k : Nat) (H : Heap) (f : Bool) (l : List Seg) (n : Nat) : snap (k + 1) H (.sl f n 1 (scells l)) = some (.sl false n 1 (scells l), H) := by
  simp [snap, sc_closed]
theorem snap_names {a : AV} {l : List Seg} (h : Names a l) (k : Nat) (H : Heap) : snap (k + 1) H a = some (a, H) := by
  rcases names_two h with ⟨rfl, rfl⟩ | rfl
  · rfl
  · exact snap_slS k H false l _
theorem closed1 {a : AV} (h : a.closed = true) : closedL [a] = true := by simp [closedL, h]

/-- Few and short. -/
def few (l : List Seg) : Bool := l.all (fun s => decide (s.length ≤ 100)) && decide (l.length ≤ 30)
theorem few_loop (l : List Seg) (hl : l.length ≤ maxLen) : ∀ (k i : Nat), i + k = l.length →
    ∃ e', XL T [0, 3] L14_0 [(0, slS l), (3, .int .i64 i)] [] = some (if (l.drop i).all (fun s => decide (s.length ≤ 100)) = true then .exit 0 else .ret, e', []) ∧
      ((l.drop i).all (fun s => decide (s.length ≤ 100)) = true → e'.get 0 = slS l) ∧ ((l.drop i).all (fun s => decide (s.length ≤ 100)) = false → e'.get 2 = .bool false)
  | 0, i, hk => by
    have hd : l.drop i = [] := List.drop_eq_nil_of_le (by omega)
    rw [XL_eq, hd]
    simp (disch := omega) [L14_0]
  | k + 1, i, hk => by
    have hml : l.length ≤ 9223372036854775807 := hl
    have hlt : i < l.length := by omega
    have hd : l.drop i = l[i] :: l.drop (i + 1) := List.drop_eq_getElem_cons hlt
    have ih := few_loop l hl k (i + 1) (by omega)
    push_cast at ih
    have hsd := sc_drop l i hlt
    rw [hd, XL_eq, List.all_cons]
    generalize XL T [0, 3] L14_0 = lp at *
    generalize (l.drop (i + 1)).all (fun s => decide (s.length ≤ 100)) = R at *
    by_cases hc : l[i].length ≤ 100
    · have hg : ¬ (100 : Int) < (l[i].length : Int) := by omega
      simp (disch := omega) [L14_0, hsd, hc, hg]
      exact ih
    · simp (disch := omega) [L14_0, hsd, hc]
theorem few_ok {a : AV} {l : List Seg} (ha : Names a l) (hl : l.length ≤ maxLen) (H : Heap) : C T 14 [a] H = some (.bool (few l), H) := by
  refine anyH fd14 rfl (closed1 ha.closed) ?_ H
  rw [q14]
  rcases names_two ha with ⟨rfl, rfl⟩ | rfl
  · rw [← q14]; exact C_of 9 (by kernel_rfl)
  · obtain ⟨e', h1, h2, h3⟩ := few_loop l hl l.length 0 (by omega)
    simp only [List.drop_zero, Int.natCast_zero] at h1 h2 h3
    have hsn := fun k H => snap_slS k H false l l.length
    unfold few
    cases hall : l.all (fun s => decide (s.length ≤ 100)) with
    | true =>
      rw [hall] at h1
      simp only [if_true] at h1
      have hd : (l.length : Int) ≤ 30 ↔ l.length ≤ 30 := by omega
      simp [d14, hsn, h1, h2 hall, hd]
    | false =>
      rw [hall] at h1
      simp at h1
      simp [d14, hsn, h1, h3 hall]

/-- Two lists of strings. -/
theorem texts_loop (l m : List Seg) (hl : l.length ≤ maxLen) (he : l.length = m.length) : ∀ (k i : Nat), i + k = l.length →
    ∃ e', XL T [0, 1, 5] L9_0 [(0, slS l), (1, slS m), (5, .int .i64 i)] [] = some (if l.drop i = m.drop i then .exit 0 else .ret, e', []) ∧ (l.drop i ≠ m.drop i → e'.get 4 = .bool false)
  | 0, i, hk => by
    have hd : l.drop i = [] := List.drop_eq_nil_of_le (by omega)
    have hd2 : m.drop i = [] := List.drop_eq_nil_of_le (by omega)
    rw [XL_eq, hd, hd2]
    simp (disch := omega) [L9_0]
  | k + 1, i, hk => by
    have hml : l.length ≤ 9223372036854775807 := hl
    have hlt : i < l.length := by omega
    have hlt2 : i < m.length := by omega
    have hd : l.drop i = l[i] :: l.drop (i + 1) := List.drop_eq_getElem_cons hlt
    have hd2 : m.drop i = m[i] :: m.drop (i + 1) := List.drop_eq_getElem_cons hlt2
    have ih := texts_loop l m hl he k (i + 1) (by omega)
    push_cast at ih
    have hsd := sc_drop l i hlt
    have hsd2 := sc_drop m i hlt2
    rw [hd, hd2, XL_eq]
    generalize XL T [0, 1, 5] L9_0 = lp at *
    by_cases hc : l[i] = m[i]
    · simp (disch := omega) [L9_0, hsd, hsd2, hc, -List.getElem_cons_drop]
      exact ih
    · simp (disch := omega) [L9_0, hsd, hsd2, hc, -List.getElem_cons_drop]
theorem texts_ok {a b : AV} {l m : List Seg} (ha : Names a l) (hb : Names b m) (hl : l.length ≤ maxLen) (hm : m.length ≤ maxLen) (H : Heap) : C T 9 [a, b] H = some (.bool (decide (l = m)), H) := by
  refine anyH fd9 rfl (by simp [closedL, ha.closed, hb.closed]) ?_ H
  rw [q9]
  have hsa := fun k H => snap_names ha k H
  have hsb := fun k H => snap_names hb k H
  by_cases he : l.length = m.length
  · by_cases h0 : l = []
    · subst h0
      have hm0 : m = [] := List.eq_nil_of_length_eq_zero (by simpa using he.symm)
      subst hm0
      rcases names_two ha with ⟨_, rfl⟩ | rfl <;> rcases names_two hb with ⟨_, rfl⟩ | rfl <;> (rw [← q9]; exact C_of 9 (by kernel_rfl))
    · have hm0 : m ≠ [] := by rintro rfl; exact h0 (List.eq_nil_of_length_eq_zero (by simpa using he))
      rcases names_two ha with ⟨e, _⟩ | rfl
      · exact absurd e h0
      rcases names_two hb with ⟨e, _⟩ | rfl
      · exact absurd e hm0
      obtain ⟨e', h1, h2⟩ := texts_loop l m hl he l.length 0 (by omega)
      simp only [List.drop_zero, Int.natCast_zero] at h1 h2
      have hsa := fun k H => snap_slS k H false l m.length
      have hsb := fun k H => snap_slS k H false m m.length
      simp only [slS, he] at h1
      by_cases hlm : l = m
      · rw [if_pos hlm] at h1
        subst hlm
        simp [d9, hsa, h1]
      · rw [if_neg hlm] at h1
        simp [d9, slS, he, hsa, hsb, h1, h2 hlm, hlm]
  · have hlm : l ≠ m := fun e => he (by rw [e])
    have hne : ¬ ((l.length : Int) = m.length) := by omega
    rcases names_two ha with ⟨rfl, rfl⟩ | rfl <;> rcases names_two hb with ⟨rfl, rfl⟩ | rfl <;> simp at hsa hsb hne hlm he <;> simp [d9, hsa, hsb, hne, hlm]
end Go.Eng.S
