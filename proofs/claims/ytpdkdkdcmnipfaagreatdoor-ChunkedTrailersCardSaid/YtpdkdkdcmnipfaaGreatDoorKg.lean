/- The decoder of chunked bodies takes a byte. No condition. -/
import Derived.Test.YtpdkdkdcmnipfaaGreatDoorKf
namespace Go.Eng.S
open Go Go.Eng
structure Inv (d : DS) : Prop where
  st : d.rd.st ≤ 3
  sg : d.stage ≤ 3
  l1 : d.stage = 1 → 1 ≤ d.left ∧ d.left ≤ 1099511627776
  l2 : d.stage = 2 → d.left = 0 ∨ d.left = -1
  o : d.out.length ≤ d.taken
  f : d.fields ≤ d.taken
  b : d.bytes + d.rd.buf.length + (if d.rd.cr = true then 1 else 0) ≤ d.taken
  ln : d.rd.line.length ≤ d.taken
theorem rd_inv {most : Nat} {r : Rd} {c : UInt8} {n t : Nat} (h : n + r.buf.length + (if r.cr = true then 1 else 0) ≤ t) (hl : r.line.length ≤ t) : n + (r.put most c).buf.length + (if (r.put most c).cr = true then 1 else 0) ≤ t + 1 ∧ (r.put most c).line.length ≤ t + 1 := by
  obtain ⟨buf, line, cr, op, st⟩ := r
  simp only at h hl
  unfold Rd.put
  by_cases c1 : st = 2 ∨ st = 3
  · rw [if_pos c1]
    exact ⟨by simp only; omega, by simp only; omega⟩
  rw [if_neg c1]
  by_cases c2 : cr = true ∧ c = 10
  · rw [if_pos c2]
    exact ⟨by simp; omega, by simp only; omega⟩
  rw [if_neg c2]
  by_cases c3 : cr = true ∨ c = 10
  · rw [if_pos c3]
    exact ⟨by simp only; omega, by simp only; omega⟩
  rw [if_neg c3]
  have hcr : cr = false := by cases cr <;> simp_all
  subst hcr
  simp only [Bool.false_eq_true, if_false] at h
  by_cases c4 : c = 13
  · rw [if_pos c4]
    exact ⟨by simp only [if_true]; omega, by simp only; omega⟩
  rw [if_neg c4]
  by_cases c5 : buf.length = most
  · rw [if_pos c5]
    exact ⟨by simp only [Bool.false_eq_true, if_false]; omega, by simp only; omega⟩
  · rw [if_neg c5]
    exact ⟨by simp only [Bool.false_eq_true, if_false, List.length_append, List.length_singleton]; omega, by simp only; omega⟩
theorem rd_line {most : Nat} {r : Rd} {c : UInt8} {n t : Nat} (h : n + r.buf.length + (if r.cr = true then 1 else 0) ≤ t) (h1 : r.st ≠ 1 ∨ True) (hs : (r.put most c).st ≠ 2) (hs3 : (r.put most c).st ≠ 3) (hs0 : (r.put most c).st ≠ 0) :
    n + ((r.put most c).line.length + 2) + (r.put most c).buf.length + (if (r.put most c).cr = true then 1 else 0) ≤ t + 1 := by
  obtain ⟨buf, line, cr, op, st⟩ := r
  simp only at h
  unfold Rd.put at *
  by_cases c1 : st = 2 ∨ st = 3
  · simp only [c1, if_true] at hs hs3; omega
  · simp only [c1, if_false] at *
    by_cases c2 : cr = true ∧ c = 10
    · simp only [c2, and_self, if_true] at *
      simp; omega
    · simp only [c2, if_false] at *
      repeat' split at hs
      all_goals simp_all
theorem dsz_le {body : Nat} {s : List UInt8} {k n : Nat} (h : dsz body s k = .inr n) : n ≤ body := by
  unfold dsz at h
  generalize (if 59 ∈ s then (s.drop (cutI 59 s + 1)).all (clsB 5) else true) = A at h
  generalize trimR (if 59 ∈ s then s.take (cutI 59 s) else s) = t at h
  by_cases hA : A = false
  · rw [if_pos hA] at h; cases h
  rw [if_neg hA] at h
  by_cases ht : t = []
  · rw [if_pos ht] at h; cases h
  rw [if_neg ht] at h
  cases hf : firstBad hxB t 0 with
  | some _ => rw [hf] at h; cases h
  | none =>
    rw [hf] at h
    cases hd : dv 16 body hxI t 0 with
    | none => rw [hd] at h; cases h
    | some m =>
      rw [hd] at h
      have := dv_le (by omega) hd
      simp only at h
      split at h
      · cases h
      · cases h; omega
theorem stp_taken (l : Lim) (d : DS) (c : UInt8) : (d.stp l c).1.taken = d.taken := by
  unfold DS.stp
  simp only
  split
  · repeat' split
    all_goals rfl
  · rfl
  · repeat' split
    all_goals rfl
  · repeat' split
    all_goals rfl
/-- What holds after a byte in its stage. -/
theorem Inv.stp {L : Lm} (hL : L.body ≤ 1099511627776) {d : DS} (h : Inv d) (c : UInt8) : Inv { (d.stp L.lim c).1 with taken := d.taken + 1 } := by
  obtain ⟨stage, state, taken, rd, left, out, fields, bytes, err⟩ := d
  obtain ⟨h1, h2, h3, h4, h5, h6, h7, h8⟩ := h
  simp only at h1 h2 h3 h4 h5 h6 h7 h8
  obtain ⟨p1, p2⟩ := rd_inv (most := L.line) (c := c) h7 h8
  have p3 := put_st (most := L.line) (c := c) h1
  have hcase : stage = 0 ∨ stage = 1 ∨ stage = 2 ∨ stage = 3 := by omega
  have hll : L.lim.line = L.line := rfl
  rcases hcase with rfl | rfl | rfl | rfl
  · unfold DS.stp
    simp only [hll]
    generalize rd.put L.line c = r at *
    by_cases c2 : r.st = 2
    · rw [if_pos c2]
      exact ⟨p3, by simp, by simp, by simp, by simp only; omega, by simp only; omega, p1, p2⟩
    by_cases c3 : r.st = 3
    · rw [if_neg c2, if_pos c3]
      exact ⟨p3, by simp, by simp, by simp, by simp only; omega, by simp only; omega, p1, p2⟩
    by_cases c0 : r.st = 0
    · rw [if_neg c2, if_neg c3, if_pos c0]
      exact ⟨p3, by simp, by simp, by simp, by simp only; omega, by simp only; omega, p1, p2⟩
    rw [if_neg c2, if_neg c3, if_neg c0]
    cases hs : L.lim.size r.line out.length with
    | inl st => exact ⟨p3, by simp, by simp, by simp, by simp only; omega, by simp only; omega, p1, p2⟩
    | inr n =>
      have hn : n ≤ L.body := dsz_le hs
      refine ⟨p3, ?_, ?_, ?_, by simp only; omega, by simp only; omega, p1, p2⟩
      · simp only; split <;> omega
      · simp only; split <;> omega
      · simp only; split <;> omega
  · refine ⟨h1, ?_, ?_, ?_, ?_, ?_, ?_, ?_⟩
    · simp only [DS.stp]; split <;> omega
    · simp only [DS.stp]; have := h3 rfl; split <;> omega
    · simp only [DS.stp]; have := h3 rfl; split <;> omega
    · simp [DS.stp]; omega
    · simp only [DS.stp]; omega
    · simp only [DS.stp]; omega
    · simp only [DS.stp]; omega
  · have h4 := h4 rfl
    unfold DS.stp
    simp only
    by_cases hc : c = (if left = 0 then 13 else 10)
    · rw [if_pos hc]
      refine ⟨h1, ?_, ?_, ?_, by simp only; omega, by simp only; omega, by simp only; omega, by simp only; omega⟩
      · simp only; split <;> omega
      · simp only; split <;> omega
      · simp only; split <;> omega
    · rw [if_neg hc]
      exact ⟨h1, by simp, by simp, fun _ => h4, by simp only; omega, by simp only; omega, by simp only; omega, by simp only; omega⟩
  · have p4 := fun a b e => rd_line (most := L.line) (c := c) h7 (.inr trivial) a b e
    unfold DS.stp
    simp only [hll]
    generalize rd.put L.line c = r at *
    by_cases c2 : r.st = 2
    · rw [if_pos c2]
      exact ⟨p3, by simp, by simp, by simp, by simp only; omega, by simp only; omega, p1, p2⟩
    by_cases c3 : r.st = 3
    · rw [if_neg c2, if_pos c3]
      exact ⟨p3, by simp, by simp, by simp, by simp only; omega, by simp only; omega, p1, p2⟩
    by_cases c0 : r.st = 0
    · rw [if_neg c2, if_neg c3, if_pos c0]
      exact ⟨p3, by simp, by simp, by simp, by simp only; omega, by simp only; omega, p1, p2⟩
    rw [if_neg c2, if_neg c3, if_neg c0]
    have p4 := p4 c2 c3 c0
    split
    · exact ⟨p3, by simp, by simp, by simp, by simp only; omega, by simp only; omega, p1, p2⟩
    · split
      · exact ⟨p3, by simp, by simp, by simp, by simp only; omega, by simp only; omega, p4, p2⟩
      · exact ⟨p3, by simp, by simp, by simp, by simp only; omega, by simp only; omega, p4, p2⟩
theorem Inv.put {L : Lm} (hL : L.body ≤ 1099511627776) {d : DS} (h : Inv d) (c : UInt8) : Inv (d.put L.lim c) := by
  unfold DS.put
  split
  · exact h
  · have hs := h.stp hL c
    have ht := stp_taken L.lim d c
    cases hq : d.stp L.lim c with
    | mk d' e =>
      rw [hq] at hs ht
      obtain ⟨h1, h2, h3, h4, h5, h6, h7, h8⟩ := hs
      cases e <;> exact ⟨h1, h2, h3, h4, h5, h6, h7, h8⟩
end Go.Eng.S
