/- SegsConfines, the plain law. No condition. -/
import Derived.Test.YtdffpjbjpfolfaaDoorGn
namespace Go.Eng.S
open Go Go.Eng
theorem cnt_loop (s : Seg) (p : AV) (H : Heap) (hs : s.length < 1000000) : ∀ (n i c : Nat), i + n = s.length → c ≤ i →
    ∃ e', XL T [0, 3, 5, 6] L3_1 [(0, .str s), (3, p), (5, .int .i64 c), (6, .int .i64 i)] H = some (.exit 0, e', H) ∧ e'.get 3 = p ∧ e'.get 5 = .int .i64 (c + (s.drop i).count 47 : Nat)
  | 0, i, c, hn, hc => by
    have hd : s.drop i = [] := List.drop_eq_nil_of_le (by omega)
    rw [hd, XL_eq]
    simp (disch := omega) [L3_1]
  | n + 1, i, c, hn, hc => by
    have hlt : i < s.length := by omega
    have hd : s.drop i = s[i] :: s.drop (i + 1) := List.drop_eq_getElem_cons hlt
    have e47 := u8_eqlit s[i] 47 47 rfl
    rw [hd, XL_eq, List.count_cons]
    by_cases h : s[i] = 47
    · have ih := cnt_loop s p H hs n (i + 1) (c + 1) (by omega) (by omega)
      push_cast at ih
      generalize XL T [0, 3, 5, 6] L3_1 = lp at *
      obtain ⟨e', x1, x2, x3⟩ := ih
      simp (disch := omega) [L3_1, h]
      refine ⟨e', x1, x2, ?_⟩
      rw [x3]
      congr 1
      omega
    · have ih := cnt_loop s p H hs n (i + 1) c (by omega) (by omega)
      push_cast at ih
      generalize XL T [0, 3, 5, 6] L3_1 = lp at *
      have e : ((s[i].toNat : Int) == 47) = false := by rw [e47]; simpa using h
      obtain ⟨e', x1, x2, x3⟩ := ih
      simp (disch := omega) [L3_1, e]
      refine ⟨e', x1, x2, ?_⟩
      rw [x3]
      simp [h]
theorem plain_loop (st : List Seg) (a : AV) (d : Bool) (ha : Names a st) (c : AV) (hst : st.length < 1000000) (hp : ∀ x ∈ st, plain x = true) (hx : ∀ x ∈ st, x.length < 1000000) : ∀ (n i : Nat), i + n = st.length →
    ∃ e', XL T [3, 5, 7] L3_0 [(3, .ptr 0 0 0), (5, c), (7, .int .i64 i)] [⟨[a, .bool d], 0, true, .no⟩] = some (.exit 2, e', [⟨[a, .bool d], 0, true, .no⟩]) ∧ e'.get 3 = .ptr 0 0 0 ∧ e'.get 5 = c
  | 0, i, hn => by
    rw [XL_eq]
    rcases names_two ha with ⟨rfl, rfl⟩ | rfl
    · simp at hn
      subst hn
      simp (disch := omega) [L3_0, hget]
    · simp (disch := omega) [L3_0, hget]
  | n + 1, i, hn => by
    have hlt : i < st.length := by omega
    have ih := plain_loop st a d ha c hst hp hx n (i + 1) (by omega)
    push_cast at ih
    rcases names_two ha with ⟨rfl, rfl⟩ | rfl
    · simp at hlt
    · have hsd := sc_drop st i hlt
      have hpl := plain_ok st[i] (by have := hx _ (List.getElem_mem hlt); omega)
      rw [hp _ (List.getElem_mem hlt)] at hpl
      rw [XL_eq]
      generalize XL T [3, 5, 7] L3_0 = lp at *
      simp (disch := omega) [L3_0, hget, hsd, hpl]
      exact ih
theorem segsConfines (s : Seg) : C T 3 [.str s] [] = some (.bool true, []) := by
  rw [q3]
  by_cases hl : 2000 < s.length
  · simp (disch := omega) [d3, awake_ok]
  · obtain ⟨y, hy, hv⟩ := parse_ok s (by omega)
    cases hr : parS s with
    | error i =>
      rw [hr] at hv
      obtain rfl := hv
      simp (disch := omega) [d3, awake_ok, hy, hset, hget]
    | ok p =>
      obtain ⟨st, d⟩ := p
      rw [hr] at hv
      obtain ⟨a, rfl, ha⟩ := hv
      obtain ⟨f1, f2, f3, f4⟩ := par_facts hr
      have f5 := par_len hr
      have hac := ha.cell
      obtain ⟨e1, x1, x2, x3⟩ := cnt_loop s (.ptr 0 0 0) [⟨[a, .bool d], 0, true, .no⟩] (by omega) s.length 0 0 (by omega) (by omega)
      simp only [List.drop_zero, Int.natCast_zero, Nat.zero_add] at x1 x3
      obtain ⟨e2, y1, y2, y3⟩ := plain_loop st a d ha (.int .i64 (s.count 47 : Nat)) (by omega) f1 (fun x hx => by have := f5 x hx; omega) st.length 0 (by omega)
      simp only [Int.natCast_zero] at y1
      have hle : decide ((st.length : Int) ≤ ((s.count 47 : Nat) : Int)) = true := by simp; omega
      generalize s.count 47 = cn at *
      rcases names_two ha with ⟨rfl, rfl⟩ | rfl
      · simp (disch := omega) [d3, awake_ok, hy, hset, hget, x1, x2, x3, y1, y2, y3]
      · simp (disch := omega) [d3, awake_ok, hy, hset, hget, x1, x2, x3, y1, y2, y3]
end Go.Eng.S
