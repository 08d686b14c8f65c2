/- Plain segments. No condition. -/
import Derived.Test.YtdffpjbjpfolfaaGreatDoorGm
namespace Go.Eng.S
open Go Go.Eng
def plain (s : Seg) : Bool := !(s == [46]) && !(s == [46, 46]) && !s.any isSL
theorem any_mem (s : Seg) : s.any isSL = (decide ((47 : UInt8) ∈ s) || decide ((92 : UInt8) ∈ s) || decide ((0 : UInt8) ∈ s)) := by
  rw [Bool.eq_iff_iff]
  simp only [List.any_eq_true, Bool.or_eq_true, decide_eq_true_eq]
  constructor
  · rintro ⟨c, h, hc⟩
    unfold isSL at hc
    simp only [Bool.or_eq_true, beq_iff_eq] at hc
    rcases hc with (rfl | rfl) | rfl
    · exact .inl (.inl h)
    · exact .inl (.inr h)
    · exact .inr h
  · rintro ((h | h) | h)
    · exact ⟨_, h, rfl⟩
    · exact ⟨_, h, rfl⟩
    · exact ⟨_, h, rfl⟩
theorem plain_ok (s : Seg) (hs : s.length < 1000000000) (H : Heap) : C T 17 [.str s] H = some (.bool (plain s), H) := by
  refine anyH fd17 rfl rfl ?_ H
  rw [q17]
  have hl : s.length < LIM := by unfold LIM; omega
  have h1 := in_ok 47 s hl
  have h2 := in_ok 92 s hl
  have h3 := in_ok 0 s hl
  have e1 : (((47 : UInt8).toNat : Nat) : Int) = 47 := rfl
  have e2 : (((92 : UInt8).toNat : Nat) : Int) = 92 := rfl
  have e3 : (((0 : UInt8).toNat : Nat) : Int) = 0 := rfl
  rw [e1] at h1
  rw [e2] at h2
  rw [e3] at h3
  unfold plain
  rw [any_mem]
  generalize decide ((47 : UInt8) ∈ s) = b1 at *
  generalize decide ((92 : UInt8) ∈ s) = b2 at *
  generalize decide ((0 : UInt8) ∈ s) = b3 at *
  by_cases c1 : s = [46]
  · simp [d17, c1]
  · by_cases c2 : s = [46, 46]
    · simp [d17, c2]
    · have m1 : (s == [46]) = false := by simpa using c1
      have m2 : (s == [46, 46]) = false := by simpa using c2
      cases b1
      · cases b2
        · cases b3 <;> simp [d17, m1, m2, h1, h2, h3]
        · simp [d17, m1, m2, h1, h2]
      · simp [d17, m1, m2, h1]
theorem dcd_any : ∀ (raw : List Seg) (n : Nat) (l : List Seg), dcd raw n = .ok l → ∀ s ∈ l, s.any isSL = false
  | [], n, l, h, s, hs => by cases h; cases hs
  | r :: rs, n, l, h, s, hs => by
    rw [dcd] at h
    split at h
    · split at h
      · cases h
      · rename_i d _ hb
        cases hr : dcd rs (n + r.length + 1) with
        | error j => rw [hr] at h; cases h
        | ok m =>
          rw [hr] at h
          cases h
          rcases List.mem_cons.1 hs with rfl | hs
          · simpa using hb
          · exact dcd_any rs _ m hr s hs
    · cases h
theorem cln_mem : ∀ (l st : List Seg) (i : Nat) (x : List Seg), clnS st l i = .ok x → ∀ s ∈ x, s ∈ st ∨ (s ∈ l ∧ s ≠ dd ∧ s ≠ d1)
  | [], st, i, x, h, s, hs => by cases h; exact .inl hs
  | t :: r, st, i, x, h, s, hs => by
    rw [clnS] at h
    split at h
    · split at h
      · cases h
      · rcases cln_mem r st.dropLast (i + 1) x h s hs with h1 | ⟨h1, h2⟩
        · exact .inl (List.dropLast_subset _ h1)
        · exact .inr ⟨by simp [h1], h2⟩
    · rename_i hd
      split at h
      · rcases cln_mem r st (i + 1) x h s hs with h1 | ⟨h1, h2⟩
        · exact .inl h1
        · exact .inr ⟨by simp [h1], h2⟩
      · rename_i hd2
        rcases cln_mem r (st ++ [t]) (i + 1) x h s hs with h1 | ⟨h1, h2⟩
        · rcases List.mem_append.1 h1 with h3 | h3
          · exact .inl h3
          · obtain rfl : s = t := by simpa using h3
            exact .inr ⟨by simp, hd, fun e => hd2 (.inl e)⟩
        · exact .inr ⟨by simp [h1], h2⟩
theorem cln_len : ∀ (l st : List Seg) (i : Nat) (x : List Seg), clnS st l i = .ok x → x.length ≤ st.length + l.length
  | [], st, i, x, h => by cases h; simp
  | s :: r, st, i, x, h => by
    rw [clnS] at h
    split at h
    · split at h
      · cases h
      · have := cln_len r st.dropLast (i + 1) x h; simp at this ⊢; omega
    · split at h
      · have := cln_len r st (i + 1) x h; simp; omega
      · have := cln_len r (st ++ [s]) (i + 1) x h; simp at this ⊢; omega
theorem par_facts {s : Seg} {st : List Seg} {d : Bool} (h : parS s = .ok (st, d)) : (∀ x ∈ st, plain x = true) ∧ st.length ≤ s.count 47 ∧ st.length ≤ s.length ∧ sl1 s = true := by
  unfold parS at h
  split at h
  · cases h
  · rename_i hse
    have hsl : sl1 s = true := by
      unfold shpE at hse
      split at hse
      · assumption
      · cases hse
    split at h
    · cases h
    · rename_i l hd
      split at h
      · rename_i st' hc
        cases h
        have h1 := dcd_any _ _ _ hd
        have h2 := cln_mem _ _ _ _ hc
        have h3 := cln_len _ _ _ _ hc
        have h4 := dcd_len _ _ _ hd
        have h5 : (rawL s).length = s.count 47 := by
          unfold rawL
          rw [if_pos hsl, spl_len]
          cases s with
          | nil => cases hsl
          | cons c r =>
            have : c = 47 := by simpa [sl1] using hsl
            subst this
            simp
        have h6 : s.count 47 ≤ s.length := List.count_le_length
        simp at h3
        refine ⟨fun x hx => ?_, by omega, by omega, hsl⟩
        rcases h2 x hx with g | ⟨g1, g2, g3⟩
        · cases g
        · unfold plain
          rw [h1 x g1]
          simp [g2, g3]
      · cases h
theorem par_len {s : Seg} {st : List Seg} {d : Bool} (h : parS s = .ok (st, d)) : ∀ x ∈ st, x.length ≤ s.length := by
  unfold parS at h
  split at h
  · cases h
  · split at h
    · cases h
    · rename_i l hd
      split at h
      · rename_i st' hc
        cases h
        have h2 := cln_mem _ _ _ _ hc
        have hl := lens_raw s
        have key : ∀ (raw : List Seg) (n : Nat) (l : List Seg), dcd raw n = .ok l → ∀ x ∈ l, x.length ≤ lens raw := by
          intro raw
          induction raw with
          | nil => intro n l h x hx; cases h; cases hx
          | cons r rs ih =>
            intro n l h x hx
            rw [dcd] at h
            split at h
            · rename_i d0 hp
              split at h
              · cases h
              · cases hr : dcd rs (n + r.length + 1) with
                | error j => rw [hr] at h; cases h
                | ok m =>
                  rw [hr] at h
                  cases h
                  rw [lens_cons]
                  rcases List.mem_cons.1 hx with rfl | hx
                  · have := pds_len _ _ _ _ hp; omega
                  · have := ih _ m hr x hx; omega
            · cases h
        intro x hx
        rcases h2 x hx with g | ⟨g1, _⟩
        · cases g
        · have := key _ _ _ hd x g1; omega
      · cases h
end Go.Eng.S
