/- Virtual hosts: Few, Find, the reference's Find. No condition. -/
import Derived.Test.YtfpknphncaopkaaDoorHf
namespace Go.Eng.S
open Go Go.Eng
abbrev nilS : AV := .cst (.slice none 0 0)
/-- Virtual hosts, as they were read: the names of each. -/
def Hosts (a : AV) (hs : List (List (List UInt8))) : Prop := (a = nilS ∧ hs = []) ∨ ∃ cells, a = .sl false hs.length 3 cells ∧ closedL cells = true ∧
  ∀ i (hi : i < hs.length), ∃ x y z rest, cells.drop (i * 3) = x :: y :: z :: rest ∧ Names x hs[i] ∧ y.isCell = true ∧ z.isCell = true
theorem Hosts.closed {a : AV} {hs : List (List (List UInt8))} (h : Hosts a hs) : a.closed = true := by
  rcases h with ⟨rfl, _⟩ | ⟨cells, rfl, h, _⟩
  · rfl
  · simpa [AV.closed] using h
theorem Hosts.at {a : AV} {hs : List (List (List UInt8))} (h : Hosts a hs) {i : Nat} (hi : i < hs.length) : ∃ cells x y z rest, a = .sl false hs.length 3 cells ∧ cells.drop (i * 3) = x :: y :: z :: rest ∧ Names x hs[i] ∧ y.isCell = true ∧ z.isCell = true := by
  rcases h with ⟨_, rfl⟩ | ⟨cells, rfl, _, h⟩
  · simp at hi
  · obtain ⟨x, y, z, rest, h1⟩ := h i hi
    exact ⟨cells, x, y, z, rest, rfl, h1⟩
theorem Names.at {a : AV} {l : List (List UInt8)} (h : Names a l) {i : Nat} (hi : i < l.length) : a = .sl false l.length 1 (l.map .str) := by
  rcases h with ⟨_, rfl⟩ | rfl
  · simp at hi
  · rfl
/-! ### Find, the code's -/
def idxF {α : Type} (p : α → Bool) : List α → Nat → Int
  | [], _ => -1
  | a :: r, i => if p a = true then i else idxF p r (i + 1)
theorem idxF_ge {α : Type} (p : α → Bool) : ∀ (l : List α) (i : Nat), 0 ≤ idxF p l i ↔ ∃ a ∈ l, p a = true
  | [], i => by simp [idxF]
  | a :: r, i => by
    unfold idxF
    by_cases h : p a = true
    · simp [h]
    · simp [h, idxF_ge p r (i + 1)]
theorem find11 (s w : List UInt8) (hs : s.length < 1000000000) (G : Heap) : C T 38 [.str s, .ptr 0 0 0] (⟨[.str w], 0, true⟩ :: G) = some (.bool (s.map low == w), ⟨[.str w], 0, true⟩ :: G) := by
  rw [q38]
  have h := olower_ok s hs
  simp [d38, h, hget]
theorem idx_str (w : List UInt8) (G : Heap) (l : List (List UInt8)) (hl : l.length ≤ maxLen) (hs : ∀ s ∈ l, s.length < 1000000000) : ∀ (k i : Nat), i + k = l.length →
    ∃ e', XL T [1, 7, 8, 9] L37_0 [(1, .fn (.func 38) [] [.ptr 0 0 0]), (7, .sl false l.length 1 (l.map .str)), (8, .int .i64 l.length), (9, .int .i64 i)] (⟨[.str w], 0, true⟩ :: G) = some (if idxF (fun s => s.map low == w) (l.drop i) i < 0 then .exit 0 else .ret, e', ⟨[.str w], 0, true⟩ :: G) ∧
      (0 ≤ idxF (fun s => s.map low == w) (l.drop i) i → e'.get 4 = .int .i64 (idxF (fun s => s.map low == w) (l.drop i) i))
  | 0, i, hk => by
    have hdr : l.drop i = [] := List.drop_eq_nil_of_le (by omega)
    rw [XL_eq, hdr]
    simp (disch := omega) [L37_0, idxF]
  | k + 1, i, hk => by
    unfold maxLen at hl
    have hlt : i < l.length := by omega
    have hdr : l.drop i = l[i] :: l.drop (i + 1) := List.drop_eq_getElem_cons hlt
    have hx := find11 l[i] w (hs _ (List.getElem_mem hlt)) G
    have ih := idx_str w G l (by unfold maxLen; omega) hs k (i + 1) (by omega)
    push_cast at ih
    have hcd : (l.map AV.str).drop i = .str l[i] :: (l.drop (i + 1)).map .str := by rw [← List.map_drop, hdr]; rfl
    rw [XL_eq]
    generalize XL T [1, 7, 8, 9] L37_0 = lp at *
    rw [hdr, idxF]
    generalize idxF (fun s => s.map low == w) (l.drop (i + 1)) (i + 1) = R at *
    cases hc : l[i].map low == w with
    | true =>
      rw [hc] at hx
      simp (disch := omega) [L37_0, hlt, hcd, hx]
    | false =>
      rw [hc] at hx
      simp (disch := omega) [L37_0, hlt, hcd, hx]
      exact ih
theorem index_str (w : List UInt8) (G : Heap) (x : AV) (l : List (List UInt8)) (hx : Names x l) (hl : l.length ≤ maxLen) (hs : ∀ s ∈ l, s.length < 1000000000) :
    C T 37 [x, .fn (.func 38) [] [.ptr 0 0 0]] (⟨[.str w], 0, true⟩ :: G) = some (.int .i64 (idxF (fun s => s.map low == w) l 0), ⟨[.str w], 0, true⟩ :: G) := by
  rw [q37]
  rcases hx with ⟨rfl, rfl⟩ | rfl
  · obtain ⟨e', g⟩ : ∃ e', XL T [1, 7, 8, 9] L37_0 [(1, .fn (.func 38) [] [.ptr 0 0 0]), (7, nilS), (8, .int .i64 0), (9, .int .i64 0)] (⟨[.str w], 0, true⟩ :: G) = some (.exit 0, e', ⟨[.str w], 0, true⟩ :: G) := by
      rw [XL_eq]
      simp [L37_0]
    simp [d37, g, idxF]
  · obtain ⟨e', g1, g2⟩ := idx_str w G l hl hs l.length 0 (by omega)
    simp only [List.drop_zero, Int.natCast_zero] at g1 g2
    generalize hR : idxF (fun s => s.map low == w) l 0 = R at *
    by_cases hc : R < 0
    · rw [if_pos hc] at g1
      have : R = -1 := by
        have : ∀ (q : List (List UInt8)) (i : Nat), idxF (fun s => s.map low == w) q i < 0 → idxF (fun s => s.map low == w) q i = -1 := by
          intro q
          induction q with
          | nil => intro i _; rfl
          | cons a r ih => intro i h; unfold idxF at h ⊢; split at h <;> split <;> first | omega | exact ih _ h | contradiction
        rw [← hR]; exact this l 0 (by omega)
      subst this
      simp [d37, g1]
    · rw [if_neg hc] at g1
      simp [d37, g1, g2 (by omega)]
end Go.Eng.S
