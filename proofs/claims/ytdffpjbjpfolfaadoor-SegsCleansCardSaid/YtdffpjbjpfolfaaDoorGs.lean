/- SegsCleans, the plain law. No condition. -/
import Derived.Test.YtdffpjbjpfolfaaDoorGh
namespace Go.Eng.S
open Go Go.Eng
def isDot (s : Seg) : Bool := s == [46] || s == [46, 46] || s == []
theorem cln_plain : ∀ (l st : List Seg) (i : Nat) (_ : l.any isDot = false), clnS st l i = .ok (st ++ l) ∧ dirR false l = false
  | [], st, i, _ => by simp [clnS, dirR]
  | s :: r, st, i, h => by
    rw [List.any_cons, Bool.or_eq_false_iff] at h
    have h1 : ¬ s = dd := by rintro rfl; simp [isDot] at h
    have h2 : ¬ s = d1 := by rintro rfl; simp [isDot] at h
    have h3 : ¬ s = [] := by rintro rfl; simp [isDot] at h
    obtain ⟨i1, i2⟩ := cln_plain r (st ++ [s]) (i + 1) h.2
    rw [clnS, dirR, if_neg h1, if_neg (by simp [h2, h3]), if_neg (by simp [h1, h2, h3])]
    exact ⟨by rw [i1]; simp, i2⟩
theorem dots_loop (l : List Seg) (hl : l.length < 1000) (p o : AV) (H : Heap) : ∀ (n i : Nat), i + n = l.length →
    ∃ e', XL T [0, 3, 4, 7] L4_0 [(0, slS l), (3, p), (4, o), (7, .int .i64 i)] H = some (if (l.drop i).any isDot = true then .ret else .exit 0, e', H) ∧ ((l.drop i).any isDot = true → e'.get 2 = .bool true) ∧
      ((l.drop i).any isDot = false → e'.get 0 = slS l ∧ e'.get 3 = p ∧ e'.get 4 = o)
  | 0, i, hn => by
    have hd : l.drop i = [] := List.drop_eq_nil_of_le (by omega)
    rw [hd, XL_eq]
    simp (disch := omega) [L4_0]
  | n + 1, i, hn => by
    have hlt : i < l.length := by omega
    have hd : l.drop i = l[i] :: l.drop (i + 1) := List.drop_eq_getElem_cons hlt
    have hsd := sc_drop l i hlt
    have ih := dots_loop l hl p o H n (i + 1) (by omega)
    push_cast at ih
    rw [hd, XL_eq, List.any_cons]
    generalize XL T [0, 3, 4, 7] L4_0 = lp at *
    generalize (l.drop (i + 1)).any isDot = B at *
    unfold isDot
    cases h1 : (l[i] == [46])
    · cases h2 : (l[i] == [46, 46])
      · cases h3 : (l[i] == [])
        · simp (disch := omega) [L4_0, hsd, h1, h2, h3]
          simpa using ih
        · simp (disch := omega) [L4_0, hsd, h1, h2, h3]
      · simp (disch := omega) [L4_0, hsd, h1, h2]
    · simp (disch := omega) [L4_0, hsd, h1]
theorem cln_len : ∀ (l st : List Seg) (i : Nat) (x : List Seg), clnS st l i = .ok x → x.length ≤ st.length + l.length
  | [], st, i, x, h => by cases h; simp
  | s :: r, st, i, x, h => by
    rw [clnS] at h
    split at h
    · split at h
      · cases h
      · have := cln_len r st.dropLast (i + 1) x h; simp at this ⊢; omega
    · split at h
      · have := cln_len r st (i + 1) x h; simp; omega
      · have := cln_len r (st ++ [s]) (i + 1) x h; simp at this ⊢; omega
theorem maxLen_val : maxLen = 9223372036854775807 := rfl
theorem segsCleans {a : AV} {l : List Seg} (ha : Names a l) (hl : l.length ≤ maxLen) : C T 4 [a] [] = some (.bool true, []) := by
  rw [q4]
  have hsa := fun k H => snap_names ha k H
  have hf := few_ok ha hl
  cases hfw : few l with
  | false =>
    rw [hfw] at hf
    simp [d4, awake_ok, hsa, hf]
  | true =>
    rw [hfw] at hf
    have hl30 : l.length ≤ 30 := by
      unfold few at hfw
      simp only [Bool.and_eq_true, decide_eq_true_eq] at hfw
      exact hfw.2
    obtain ⟨y, hy, hv⟩ := clean_ok ha (by omega)
    obtain ⟨z, hz, hw⟩ := rclean_ok ha (by omega)
    have hnil : Names nls [] := .inl ⟨rfl, rfl⟩
    cases hr : clnS [] l 0 with
    | ok st =>
      rw [hr] at hv hw
      obtain ⟨b, rfl, hb⟩ := hv
      obtain ⟨c, rfl, hc⟩ := hw
      have hst := cln_len _ _ _ _ hr
      have hbc := hb.cell
      have hcc := hc.cell
      have hsm := same_ok (x := dirR false l) (y := dirR false l) hb hc (by rw [maxLen_val]; simp at hst; omega) (by rw [maxLen_val]; simp at hst; omega)
      have htx := texts_ok hb ha (by rw [maxLen_val]; simp at hst; omega) hl
      simp only [decide_true, beq_self_eq_true, Bool.and_self] at hsm
      have hpl := cln_plain l [] 0
      rw [hr] at hpl
      rcases names_two ha with ⟨rfl, rfl⟩ | rfl
      · obtain ⟨q1, q2⟩ := hpl rfl
        cases q1
        rw [q2] at hsm hy hz
        have hx : ∀ H, ∃ e', XL T [0, 3, 4, 7] L4_0 [(0, nls), (3, .ptr 0 0 0), (4, .bool true), (7, .int .i64 0)] H = some (.exit 0, e', H) ∧ e'.get 0 = nls ∧ e'.get 3 = .ptr 0 0 0 ∧ e'.get 4 = .bool true := by
          intro H
          rw [XL_eq]
          simp [L4_0]
        obtain ⟨e', x1, x2, x3, x4⟩ := hx [⟨[b, .bool false], 0, true, .no⟩, ⟨[c, .bool false], 0, true, .no⟩]
        simp at htx
        simp [d4, awake_ok, hsa, hf, hy, hz, hset, hget, hbc, hcc, hsm, x1, x2, x3, x4, htx]
      · obtain ⟨e', x1, x2, x3⟩ := dots_loop l (by omega) (.ptr 0 0 0) (.bool true) [⟨[b, .bool (dirR false l)], 0, true, .no⟩, ⟨[c, .bool (dirR false l)], 0, true, .no⟩] l.length 0 (by omega)
        simp only [List.drop_zero, Int.natCast_zero] at x1 x2 x3
        cases hd : l.any isDot with
        | true =>
          rw [hd] at x1
          simp only [if_true] at x1
          simp [d4, awake_ok, hsa, hf, hy, hz, hset, hget, hbc, hcc, hsm, x1, x2 hd]
        | false =>
          rw [hd] at x1
          simp at x1
          obtain ⟨q1, q2⟩ := hpl hd
          obtain ⟨g0, g3, g4⟩ := x3 hd
          have hst' : st = l := by simpa using q1
          subst hst'
          simp only [decide_true] at htx
          rw [q2] at x1 hsm hy hz
          simp [d4, awake_ok, hsa, hf, hy, hz, hset, hget, hbc, hcc, hsm, x1, g0, g3, g4, htx]
    | error j =>
      rw [hr] at hv hw
      obtain rfl := hv
      obtain rfl := hw
      have hsm := same_ok (x := false) (y := false) hnil hnil (by decide) (by decide)
      simp only [decide_true, beq_self_eq_true, Bool.and_self] at hsm
      have hpl := cln_plain l [] 0
      rw [hr] at hpl
      rcases names_two ha with ⟨rfl, rfl⟩ | rfl
      · cases hr
      · obtain ⟨e', x1, x2, x3⟩ := dots_loop l (by omega) (.ptr 0 0 0) (.bool false) [⟨[nls, .bool false], 0, true, .no⟩, ⟨[nls, .bool false], 0, true, .no⟩] l.length 0 (by omega)
        simp only [List.drop_zero, Int.natCast_zero] at x1 x2 x3
        cases hd : l.any isDot with
        | true =>
          rw [hd] at x1
          simp only [if_true] at x1
          simp (disch := omega) [d4, awake_ok, hsa, hf, hy, hz, hset, hget, hsm, x1, x2 hd]
        | false => have := (hpl hd).1; cases this
end Go.Eng.S
