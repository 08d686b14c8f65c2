/- SegsInverse, the plain law. No condition. -/
import Derived.Test.YtdffpjbjpfolfaaGreatDoorGy
import Derived.Test.YtdffpjbjpfolfaaGreatDoorGv
namespace Go.Eng.S
open Go Go.Eng
theorem inv_loop (l : List Seg) (hl : l.length ≤ 30) (hx : ∀ x ∈ l, x.length ≤ 100) (d : Bool) (tx : Seg) (H : Heap) : ∀ n i, i + n = l.length →
    ∃ e', XL T [0, 1, 5, 6] L4_0 [(0, slS l), (1, .bool d), (5, .str tx), (6, .int .i64 i)] H = some (if (l.drop i).all plain = true then .exit 0 else .ret, e', H) ∧
      ((l.drop i).all plain = true → e'.get 0 = slS l ∧ e'.get 1 = .bool d ∧ e'.get 5 = .str tx) ∧ ((l.drop i).all plain = false → e'.get 4 = .bool true)
  | 0, i, hn => by
    have hd : l.drop i = [] := List.drop_eq_nil_of_le (by omega)
    rw [XL_eq, hd]
    simp (disch := omega) [L4_0]
  | n + 1, i, hn => by
    have hlt : i < l.length := by omega
    have hd : l.drop i = l[i] :: l.drop (i + 1) := List.drop_eq_getElem_cons hlt
    have ih := inv_loop l hl hx d tx H n (i + 1) (by omega)
    push_cast at ih
    have hsd := sc_drop l i hlt
    have hp := plain_ok l[i] (by have := hx l[i] (List.getElem_mem hlt); omega)
    rw [hd, XL_eq, List.all_cons]
    generalize XL T [0, 1, 5, 6] L4_0 = lp at *
    generalize (l.drop (i + 1)).all plain = R at *
    cases hb : plain l[i] with
    | true =>
      rw [hb] at hp
      simp (disch := omega) [L4_0, hsd, hp]
      exact ih
    | false =>
      rw [hb] at hp
      simp (disch := omega) [L4_0, hsd, hp]
theorem lens_le (k : Nat) : ∀ l : List Seg, (∀ x ∈ l, x.length ≤ k) → lens l ≤ k * l.length
  | [], _ => by simp [lens]
  | x :: l, h => by
    have h1 := h x (by simp)
    have h2 := lens_le k l fun y hy => h y (by simp [hy])
    rw [lens_cons, List.length_cons, Nat.mul_add]; omega
theorem segsInverse {a : AV} {l : List Seg} (ha : Names a l) (hl : l.length ≤ maxLen) (d : Bool) : C T 4 [a, .bool d] [] = some (.bool true, []) := by
  rw [q4]
  have hf := few_ok ha hl
  have hsa := fun k H => snap_names ha k H
  cases hfw : few l with
  | false =>
    rw [hfw] at hf
    simp (disch := omega) [d4, awake_ok, hsa, hf]
  | true =>
    rw [hfw] at hf
    unfold few at hfw
    simp only [Bool.and_eq_true, List.all_eq_true, decide_eq_true_eq] at hfw
    obtain ⟨hx, hl30⟩ := hfw
    have hln := lens_le 100 l hx
    have ht := text_ok ha d (by omega) (by omega)
    have hr := rtext_ok ha d (by omega) (by omega)
    have hac := ha.cell
    have htl : (txt l d).length < 1000000 := by
      have := segT_len l
      unfold txt
      split
      · rw [List.length_append, List.length_singleton]; omega
      · omega
    rcases names_two ha with ⟨rfl, rfl⟩ | rfl
    · have hx : ∃ e', XL T [0, 1, 5, 6] L4_0 [(0, nls), (1, .bool d), (5, .str (txt [] d)), (6, .int .i64 0)] [] = some (.exit 0, e', []) ∧ e'.get 0 = nls ∧ e'.get 1 = .bool d ∧ e'.get 5 = .str (txt [] d) := by
        rw [XL_eq]
        simp [L4_0]
      obtain ⟨e', x1, x2, x3, x4⟩ := hx
      obtain ⟨y, hy, hv⟩ := parse_ok (txt [] d) htl
      rw [par_txt [] d (by simp) (.inr (by simp))] at hv
      obtain ⟨b, rfl, hb⟩ := hv
      have hbc := hb.cell
      have htx := texts_ok hb ha (by decide) (by decide)
      simp only [decide_true, List.isEmpty_nil, Bool.or_true] at htx hy
      generalize txt [] d = tx at *
      cases d <;> simp (disch := omega) [d4, awake_ok, hf, ht, hr, x1, x2, x3, x4, hy, hset, hget, hbc, htx]
    · obtain ⟨e', x1, x2, x3⟩ := inv_loop l hl30 hx d (txt l d) [] l.length 0 (by omega)
      simp only [List.drop_zero, Int.natCast_zero] at x1 x2 x3
      cases hall : l.all plain with
      | false =>
        rw [hall] at x1
        simp only [Bool.false_eq_true, if_false] at x1
        have x3 := x3 hall
        generalize txt l d = tx at *
        simp (disch := omega) [d4, awake_ok, hsa, hf, ht, hr, x1, x3]
      | true =>
        rw [hall] at x1
        simp only [if_true] at x1
        obtain ⟨g0, g1, g5⟩ := x2 hall
        have hpl : ∀ x ∈ l, plain x = true := List.all_eq_true.1 hall
        by_cases hc : d = true ∨ ∀ r x, l = r ++ [x] → x ≠ []
        · obtain ⟨y, hy, hv⟩ := parse_ok (txt l d) htl
          rw [par_txt l d hpl hc] at hv
          obtain ⟨b, rfl, hb⟩ := hv
          have hbc := hb.cell
          have htx := texts_ok hb ha hl hl
          simp only [decide_true] at htx
          generalize txt l d = tx at *
          rcases List.eq_nil_or_concat l with rfl | ⟨r, x, hrx⟩
          · simp only [slS, List.isEmpty_nil, Bool.or_true, List.length_nil, Int.natCast_zero] at *
            cases d <;> simp (disch := omega) [d4, awake_ok, hsa, hf, ht, hr, x1, g0, g1, g5, hy, hset, hget, hbc, htx]
          · have hle : l.length = r.length + 1 := by rw [hrx]; simp
            have hne : l.isEmpty = false := by rw [hrx]; simp
            have hld : (scells l).drop r.length = [.str x] := by rw [hrx]; simp [scells]
            rw [hne, Bool.or_false] at hy
            simp only [slS, hle] at *
            cases d with
            | true =>
              cases hxe : (x == []) <;> simp (disch := omega) [d4, awake_ok, hsa, hf, ht, hr, x1, g0, g1, g5, hy, hset, hget, hbc, htx, hld, hxe]
            | false =>
              have hxe : (x == []) = false := by simpa using hc.resolve_left (by simp) r x (by simpa using hrx)
              simp (disch := omega) [d4, awake_ok, hsa, hf, ht, hr, x1, g0, g1, g5, hy, hset, hget, hbc, htx, hld, hxe]
        · have hd0 : d = false := by
            cases d with
            | false => rfl
            | true => exact absurd (.inl rfl) hc
          subst hd0
          obtain ⟨r, hrx⟩ : ∃ r, l = r ++ [[]] := by
            rcases List.eq_nil_or_concat l with rfl | ⟨r, x, hrx⟩
            · exact absurd (.inr (by simp)) hc
            · by_cases hxe : x = []
              · exact ⟨r, by rw [hrx, hxe]; simp⟩
              · refine absurd (.inr fun r' x' e => ?_) hc
                rw [hrx, List.concat_eq_append] at e
                have := List.append_inj_right' e rfl
                simp at this
                rw [← this]; exact hxe
          have hle : l.length = r.length + 1 := by rw [hrx]; simp
          have hld : (scells l).drop r.length = [.str []] := by rw [hrx]; simp [scells]
          generalize txt l false = tx at *
          simp only [slS, hle] at *
          simp (disch := omega) [d4, awake_ok, hsa, hf, ht, hr, x1, g0, g1, g5, hld]
end Go.Eng.S
