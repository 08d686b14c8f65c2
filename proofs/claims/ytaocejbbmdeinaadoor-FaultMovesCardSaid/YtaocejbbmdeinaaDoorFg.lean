/- Few, Build, the reference's Text. No condition. -/
import Derived.Test.YtaocejbbmdeinaaDoorFf
namespace Go.Eng.S
open Go Go.Eng
def evE (a : AV) (s t : Int) (f : Bool) : AV := .agg [a, .int .i64 s, .int .i64 t, .bool f]
abbrev evO (a : AV) (s t : Int) (f : Bool) : AObj := ⟨[a, .int .i64 s, .int .i64 t, .bool f], 0, true⟩
theorem nm_snap {a : AV} {l : List (List UInt8)} (h : Names a l) (k : Nat) (H : Heap) : snap (k + 1) H a = some (a, H) := by
  have hc := h.closed
  rcases h with ⟨rfl, rfl⟩ | rfl
  · rfl
  · have h' : closedL (l.map AV.str) = true := by simpa [AV.closed] using hc
    simp [snap, h']
def fewB (l : List (List UInt8)) (t : Int) : Bool := l.all (fun p => decide (p.length ≤ 100)) && (decide (l.length ≤ 20) && decide (-1000000000 < t) && decide (t < 1000000000))
theorem few_loop (s t : Int) (f : Bool) (l : List (List UInt8)) (hl : l.length ≤ maxLen) (hs : ∀ p ∈ l, p.length < 9223372036854775808) : ∀ (k i : Nat), i + k = l.length →
    ∃ e', XL T [1, 3] L9_0 [(1, .ptr 0 0 0), (3, .int .i64 i)] [evO (.sl false l.length 1 (l.map .str)) s t f] = some (if (l.drop i).all (fun p => decide (p.length ≤ 100)) = true then .exit 0 else .ret, e', [evO (.sl false l.length 1 (l.map .str)) s t f]) ∧
      ((l.drop i).all (fun p => decide (p.length ≤ 100)) = true → e'.get 1 = .ptr 0 0 0) ∧ ((l.drop i).all (fun p => decide (p.length ≤ 100)) = false → e'.get 2 = .bool false)
  | 0, i, hk => by
    have hd : l.drop i = [] := List.drop_eq_nil_of_le (by omega)
    rw [XL_eq, hd]
    simp [L9_0, hget, show ¬ i < l.length by omega]
  | k + 1, i, hk => by
    have hlt : i < l.length := by omega
    have hm : l.length ≤ 9223372036854775807 := by have h0 : maxLen = 9223372036854775807 := rfl; omega
    have hd : l.drop i = l[i] :: l.drop (i + 1) := List.drop_eq_getElem_cons hlt
    have ih := few_loop s t f l hl hs k (i + 1) (by omega)
    push_cast at ih
    have hp := hs l[i] (List.getElem_mem hlt)
    have hdm : (l.map AV.str).drop i = .str l[i] :: (l.map AV.str).drop (i + 1) := by
      rw [List.drop_eq_getElem_cons (by simpa using hlt)]; simp
    rw [hd, XL_eq, List.all_cons]
    generalize XL T [1, 3] L9_0 = lp at *
    generalize (l.drop (i + 1)).all (fun p => decide (p.length ≤ 100)) = R at *
    generalize l[i] = p at *
    by_cases hc : p.length ≤ 100
    · simp (disch := omega) [L9_0, hget, hlt, hdm, hc]
      exact ih
    · simp (disch := omega) [L9_0, hget, hlt, hdm, hc]
theorem few_ok (a : AV) (l : List (List UInt8)) (ha : Names a l) (hl : l.length ≤ maxLen) (hs : ∀ p ∈ l, p.length < 9223372036854775808) (s t : Int) (f : Bool) (H : Heap) : C T 9 [evE a s t f] H = some (.bool (fewB l t), H) := by
  refine anyH fd9 rfl (by simp [evE, AV.closed, closedL, ha.closed]) ?_ H
  have hsn := fun k H => nm_snap ha k H
  have hce := ha.cell
  rw [q9]
  unfold fewB evE
  rcases ha with ⟨rfl, rfl⟩ | rfl
  · have hx : ∃ e', XL T [1, 3] L9_0 [(1, .ptr 0 0 0), (3, .int .i64 (0 : Nat))] [evO (.cst (.slice none 0 0)) s t f] = some (.exit 0, e', [evO (.cst (.slice none 0 0)) s t f]) ∧ e'.get 1 = .ptr 0 0 0 := by
      rw [XL_eq]
      simp [L9_0, hget]
    obtain ⟨e', h1, h2⟩ := hx
    simp at h1
    by_cases c1 : -1000000000 < t <;> by_cases c2 : t < 1000000000 <;> simp (disch := omega) [d9, h1, h2, hget, c1, c2] <;> omega
  · have hm : l.length ≤ 9223372036854775807 := by have h0 : maxLen = 9223372036854775807 := rfl; omega
    obtain ⟨e', h1, h2, h3⟩ := few_loop s t f l hl hs l.length 0 (by omega)
    simp only [List.drop_zero] at h1 h2 h3
    cases hq : l.all (fun p => decide (p.length ≤ 100)) with
    | true =>
      rw [hq] at h1 h2
      simp at h1
      have h2' := h2 rfl
      by_cases c0 : l.length ≤ 20 <;> by_cases c1 : -1000000000 < t <;> by_cases c2 : t < 1000000000 <;> simp (disch := omega) [d9, hsn, h1, h2', hget, c0, c1, c2] <;> omega
    | false =>
      rw [hq] at h1 h3
      simp at h1
      have h3' := h3 rfl
      simp (disch := omega) [d9, hsn, h1, h3', hget]
end Go.Eng.S
