/- The code's and the reference's hosts are the same. No condition. -/
import Derived.Test.YtfpknphncaopkaaDoorHd
namespace Go.Eng.S
open Go Go.Eng
theorem tw_len {p : UInt8 → Bool} : ∀ {l : List UInt8} {m : Nat}, (l.take m).all p = true → m ≤ l.length → (∀ c, l[m]? = some c → p c = false) → (l.takeWhile p).length = m
  | [], m, _, h, _ => by simp at h; simp [h]
  | a :: r, 0, _, _, h => by simp [h a (by simp)]
  | a :: r, m + 1, h, h2, h3 => by
    simp only [List.take_succ_cons, List.all_cons, Bool.and_eq_true] at h
    rw [List.takeWhile_cons, if_pos h.1]
    simp [tw_len h.2 (by simpa using h2) (fun c hc => h3 c (by simpa using hc))]
theorem tw_take {p : UInt8 → Bool} : ∀ (l : List UInt8), l.take (l.takeWhile p).length = l.takeWhile p
  | [] => rfl
  | a :: r => by
    rw [List.takeWhile_cons]
    split
    · simp [tw_take r]
    · rfl
theorem tw_all {p : UInt8 → Bool} : ∀ (l : List UInt8), (l.takeWhile p).all p = true
  | [] => rfl
  | a :: r => by
    rw [List.takeWhile_cons]
    split
    · rename_i h; rw [List.all_cons, h, tw_all r]; rfl
    · rfl
theorem name1_eq (s : List UInt8) : nameR [] [] nam s = (s.takeWhile nam).length := by
  unfold nameR
  rw [if_pos (by simp [hasP])]
  simp only [List.length_nil, List.drop_zero, Nat.zero_add, Nat.add_zero]
  split
  · rename_i h; exact h.symm
  · rw [if_pos (by simp [hasP])]
theorem name0_no {s : List UInt8} (h : s[0]? ≠ some 91) : nameR [91] [93] six s = 0 := by
  unfold nameR
  rw [if_neg]
  intro hh
  obtain ⟨r, rfl⟩ := hasP_iff.1 hh
  exact h rfl
theorem name0_eq (r : List UInt8) : nameR [91] [93] six (91 :: r) = if (r.takeWhile six).length = 0 then 0 else if r[(r.takeWhile six).length]? = some 93 then (r.takeWhile six).length + 2 else 0 := by
  unfold nameR
  rw [if_pos (by simp [hasP])]
  simp only [List.length_cons, List.length_nil, List.drop_succ_cons, List.drop_zero]
  split
  · rfl
  · have e : hasP [93] (r.drop (r.takeWhile six).length) = true ↔ r[(r.takeWhile six).length]? = some 93 := by
      rw [hasP_iff]
      generalize (r.takeWhile six).length = n
      constructor
      · rintro ⟨t, ht⟩
        have := congrArg (fun l => l[0]?) ht
        simpa using this
      · intro h
        obtain ⟨hn, hv⟩ := List.getElem?_eq_some_iff.1 h
        exact ⟨r.drop (n + 1), by rw [List.drop_eq_getElem_cons hn, hv]; rfl⟩
    by_cases hx : r[(r.takeWhile six).length]? = some 93
    · rw [if_pos hx, if_pos (e.2 hx)]; omega
    · rw [if_neg hx, if_neg (fun h => hx (e.1 h))]
def Nn (s : List UInt8) : Nat := if s[0]? = some 91 then nameR [91] [93] six s else nameR [] [] nam s
theorem hostP_eq (s : List UInt8) : hostP s = if fits s (Nn s) = true then fin s (Nn s) else .bad 0 := by
  unfold hostP Nn
  by_cases h : s[0]? = some 91
  · rw [if_pos h]
    have : nameR [] [] nam s = 0 := by
      rw [name1_eq]
      match s, h with
      | a :: r, h =>
        have : a = 91 := by simpa using h
        subst this
        rfl
    rw [this]
    have hz : fits s 0 = false := rfl
    rw [hz]
    rfl
  · rw [if_neg h, name0_no h]
    have hz : fits s 0 = false := rfl
    rw [hz]
    rfl
theorem rName_take (s : List UInt8) (i : Nat) (hi : i ≤ s.length) (hb : i = s.length ∨ s[i]? = some 58) : rName (s.take i) = true ↔ i ≠ 0 ∧ i = Nn s := by
  by_cases h0 : i = 0
  · subst h0; simp [rName]
  have hne : s.take i ≠ [] := by
    intro h
    rw [List.take_eq_nil_iff] at h
    rcases h with h | h
    · exact h0 h
    · subst h; simp at hi; exact h0 hi
  have hz : (s.take i)[0]? = s[0]? := by rw [List.getElem?_take_of_lt (by omega)]
  unfold rName Nn
  rw [if_neg hne, hz]
  by_cases h1 : s[0]? = some 91
  · rw [if_pos h1, if_pos h1]
    match s, h1 with
    | a :: r, h1 =>
    have : a = 91 := by simpa using h1
    subst this
    obtain ⟨j, rfl⟩ : ∃ j, i = j + 1 := ⟨i - 1, by omega⟩
    rw [name0_eq]
    have hjl : j ≤ r.length := by simpa using hi
    have hlen : ((91 :: r).take (j + 1)).length = j + 1 := by simp; omega
    rw [hlen]
    simp only [List.take_succ_cons, Nat.add_sub_cancel]
    have hmid : (List.take j (91 :: r.take j)).drop 1 = r.take (j - 1) := by
      cases j with
      | zero => rfl
      | succ j => simp [List.take_take]
    rw [hmid]
    have hlast : (91 :: r.take j)[j]? = if j = 0 then some 91 else r[j - 1]? := by
      cases j with
      | zero => rfl
      | succ j => simp [List.getElem?_take_of_lt]
    rw [hlast]
    simp only [Bool.and_eq_true, decide_eq_true_eq, beq_iff_eq]
    constructor
    · rintro ⟨⟨ha, hl⟩, hc⟩
      rw [if_neg (by omega)] at hc
      have := tw_len (p := six) ha (by omega) (fun c h => by rw [hc] at h; cases h; rfl)
      rw [this, if_neg (by omega), if_pos hc]
      omega
    · rintro ⟨_, h⟩
      split at h
      · omega
      · split at h
        · rename_i h3 h4
          have hj : j - 1 = (r.takeWhile six).length := by omega
          rw [if_neg (by omega), hj, tw_take]
          exact ⟨⟨tw_all r, by omega⟩, h4⟩
        · omega
  · rw [if_neg h1, if_neg h1, name1_eq]
    constructor
    · intro ha
      refine ⟨h0, ?_⟩
      have := tw_len (p := nam) ha hi (fun c h => by
        rcases hb with hb | hb
        · rw [List.getElem?_eq_none (by omega)] at h; cases h
        · rw [hb] at h; cases h; rfl)
      omega
    · rintro ⟨_, h⟩
      rw [h, tw_take]
      exact tw_all s
theorem rgo_eq (s : List UInt8) : ∀ (k i : Nat), i + k = s.length → rgo s k i = if i ≤ Nn s ∧ Nn s ≠ 0 ∧ s[Nn s]? = some 58 then some (fin s (Nn s)) else none
  | 0, i, hk => by
    rw [rgo, if_neg]
    rintro ⟨h1, h2, h3⟩
    rw [List.getElem?_eq_none (by omega)] at h3
    cases h3
  | k + 1, i, hk => by
    rw [rgo, rgo_eq s k (i + 1) (by omega)]
    by_cases h : (s[i]? == some 58 && rName (s.take i)) = true
    · rw [if_pos h]
      simp only [Bool.and_eq_true, beq_iff_eq] at h
      obtain ⟨h1, h2⟩ := (rName_take s i (by omega) (.inr h.1)).1 h.2
      rw [if_pos ⟨by omega, by omega, by rw [← h2]; exact h.1⟩, h2]
    · rw [if_neg h]
      have : Nn s = i → ¬ (Nn s ≠ 0 ∧ s[Nn s]? = some 58) := by
        rintro rfl ⟨h1, h2⟩
        apply h
        rw [h2, (rName_take s _ (by omega) (.inr h2)).2 ⟨h1, rfl⟩]
        rfl
      by_cases h2 : i + 1 ≤ Nn s
      · have : i ≤ Nn s := by omega
        simp only [h2, this, true_and]
      · rw [if_neg (fun h => h2 h.1), if_neg]
        rintro ⟨a, b, c⟩
        exact this (by omega) ⟨b, c⟩
theorem Nn_le (s : List UInt8) : Nn s ≤ s.length := by unfold Nn; split <;> exact nameR_le _ _ _ _
theorem rName_whole (s : List UInt8) : rName s = true ↔ s.length ≠ 0 ∧ s.length = Nn s := by
  have := rName_take s s.length (Nat.le_refl _) (.inl rfl)
  rwa [List.take_length] at this
theorem same_host (s : List UInt8) : hostP s = refP s := by
  rw [hostP_eq]
  unfold refP
  have hle := Nn_le s
  rw [rgo_eq s _ _ (by omega)]
  by_cases h : rName s = true
  · rw [if_pos h]
    obtain ⟨h1, h2⟩ := (rName_whole s).1 h
    rw [← h2, if_pos (by simp [fits, h1])]
    unfold fin
    rw [if_pos (List.drop_eq_nil_of_le (by omega)), List.take_length]
  · rw [if_neg h]
    by_cases hf : fits s (Nn s) = true
    · rw [if_pos hf]
      unfold fits at hf
      simp only [Bool.and_eq_true, Bool.or_eq_true, decide_eq_true_eq, beq_iff_eq] at hf
      rcases hf.2 with h3 | h3
      · exact absurd ((rName_whole s).2 ⟨by have := hf.1; omega, by omega⟩) h
      · rw [if_pos ⟨by omega, hf.1, h3⟩]; rfl
    · rw [if_neg hf, if_neg]
      · rfl
      · rintro ⟨_, h2, h3⟩
        exact hf (by simp [fits, h2, h3])
end Go.Eng.S
