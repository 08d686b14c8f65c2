/- Slash, backslash, zero are looked for in a string. No condition. -/
import Derived.Test.YtdffpjbjpfolfaaGreatDoorGi
namespace Go.Eng.S
open Go Go.Eng
theorem decS_fact (s : List UInt8) (pos : Nat) (h : pos < s.length) : (s[pos].toNat < 128 ∧ decS s pos = (s[pos].toNat, 1)) ∨
    (128 ≤ (decS s pos).1 ∧ (decS s pos).1 ≤ 1114111 ∧ 1 ≤ (decS s pos).2 ∧ ∀ j, j < (decS s pos).2 → ∃ c, s[pos + j]? = some c ∧ 128 ≤ c.toNat) := by
  have ha : ∀ k, pos + k < s.length → ∃ c, s[pos + k]? = some c ∧ ((⟨s.toArray⟩ : ByteArray).get! (pos + k)).toNat = c.toNat := by
    intro k hk
    refine ⟨s[pos + k], List.getElem?_eq_getElem hk, ?_⟩
    simp [ByteArray.get!, hk]
  obtain ⟨c0, h0, e0⟩ := ha 0 (by omega)
  have hs0 : s[pos] = c0 := by rw [Nat.add_zero, List.getElem?_eq_getElem h] at h0; exact Option.some.inj h0
  rw [hs0]
  unfold decS Utf8.decode
  have hsz : (⟨s.toArray⟩ : ByteArray).size = s.length := by simp [ByteArray.size]
  simp only [hsz, e0]
  have hc : ∀ k, (decide (pos + k < s.length) && ((⟨s.toArray⟩ : ByteArray).get! (pos + k)).toNat / 64 == 2) = true → ∃ c, s[pos + k]? = some c ∧ 128 ≤ c.toNat := by
    intro k hk
    simp only [Bool.and_eq_true, decide_eq_true_eq, beq_iff_eq] at hk
    obtain ⟨c, h1, h2⟩ := ha k hk.1
    exact ⟨c, h1, by omega⟩
  by_cases hlt : c0.toNat < 128
  · left
    simp [hlt]
  · right
    have hz : ∃ c, s[pos + 0]? = some c ∧ 128 ≤ c.toNat := ⟨c0, h0, by omega⟩
    have one : ∀ j, j < 1 → ∃ c, s[pos + j]? = some c ∧ 128 ≤ c.toNat := fun j hj => by
      obtain rfl : j = 0 := by omega
      exact hz
    rw [if_neg hlt]
    split
    · rename_i hb
      simp only [Bool.and_eq_true] at hb
      have k1 := hc 1 (by simpa using hb.2)
      split
      · rename_i hge
        have hd : c0.toNat / 32 = 6 := by simpa using hb.1
        refine ⟨hge, by simp only; omega, by simp, fun j hj => ?_⟩
        match j, hj with
        | 0, _ => exact hz
        | 1, _ => exact k1
      · exact ⟨by decide, by decide, by simp, one⟩
    · split
      · rename_i hb
        simp only [Bool.and_eq_true] at hb
        have k1 := hc 1 (by simpa using hb.1.2)
        have k2 := hc 2 (by simpa using hb.2)
        split
        · rename_i hge
          simp only [Bool.and_eq_true, decide_eq_true_eq] at hge
          have hv := hge.2
          unfold Utf8.valid at hv
          simp only [Bool.or_eq_true, Bool.and_eq_true, decide_eq_true_eq] at hv
          refine ⟨by simp only; omega, by simp only; omega, by simp, fun j hj => ?_⟩
          match j, hj with
          | 0, _ => exact hz
          | 1, _ => exact k1
          | 2, _ => exact k2
        · exact ⟨by decide, by decide, by simp, one⟩
      · split
        · rename_i hb
          simp only [Bool.and_eq_true] at hb
          have k1 := hc 1 (by simpa using hb.1.1.2)
          have k2 := hc 2 (by simpa using hb.1.2)
          have k3 := hc 3 (by simpa using hb.2)
          split
          · rename_i hge
            simp only [Bool.and_eq_true, decide_eq_true_eq] at hge
            have hv := hge.2
            unfold Utf8.valid at hv
            simp only [Bool.or_eq_true, Bool.and_eq_true, decide_eq_true_eq] at hv
            refine ⟨by simp only; omega, by simp only; omega, by simp, fun j hj => ?_⟩
            match j, hj with
            | 0, _ => exact hz
            | 1, _ => exact k1
            | 2, _ => exact k2
            | 3, _ => exact k3
          · exact ⟨by decide, by decide, by simp, one⟩
        · exact ⟨by decide, by decide, by simp, one⟩
abbrev itRow (s : List UInt8) (pos : Nat) : AObj := ⟨[], 0, true, .it s pos⟩
theorem any_none {s : List UInt8} {i w : Nat} (hw : ∀ j, j < w → ∃ c, s[i + j]? = some c ∧ 128 ≤ c.toNat) : (s.drop i).any isSL = (s.drop (i + w)).any isSL := by
  induction w with
  | zero => rfl
  | succ w ih =>
    rw [ih fun j hj => hw j (by omega)]
    obtain ⟨c, h1, h2⟩ := hw w (by omega)
    obtain ⟨hlt, h3⟩ := List.getElem?_eq_some_iff.1 h1
    rw [List.drop_eq_getElem_cons hlt, List.any_cons, h3, isSL_hi h2, Bool.false_or]
    rfl
theorem iany_loop (s : List UInt8) (_hs : s.length < 100000000) : ∀ (n i : Nat), i + n = s.length →
    ∃ e' H', XL T [1, 45] L56_0 [(1, .str SL), (45, .ptr 0 0 0)] [itRow s i] = some (if (s.drop i).any isSL = true then .ret else .exit 2, e', H') ∧ ((s.drop i).any isSL = true → ∃ m, e'.get 4 = .int .i64 m ∧ 0 ≤ m) := by
  intro n
  induction n using Nat.strongRecOn with
  | ind n IH =>
    intro i hn
    rw [XL_eq]
    cases n with
    | zero =>
      have hd : s.drop i = [] := List.drop_eq_nil_of_le (by omega)
      rw [hd]
      simp (disch := omega) [L56_0]
    | succ n =>
      have hlt : i < s.length := by omega
      have hf := decS_fact s i hlt
      have hd : s.drop i = s[i] :: s.drop (i + 1) := List.drop_eq_getElem_cons hlt
      rcases hf with ⟨h1, h2⟩ | ⟨h1, h2, h3, h4⟩
      · obtain ⟨m, g1, g2⟩ := irune_ok (s[i].toNat : Nat) (by omega) (by omega) [itRow s (i + 1)]
        simp only [Int.toNat_natCast, UInt8.ofNat_toNat] at g2
        have hlt' : (s[i].toNat : Int) < 128 := by omega
        obtain ⟨e', H', x1, x2⟩ := IH n (by omega) (i + 1) (by omega)
        generalize XL T [1, 45] L56_0 = lp at *
        rw [hd, List.any_cons]
        generalize (s.drop (i + 1)).any isSL = B at *
        cases hb : isSL s[i] with
        | true =>
          rw [hb] at g2
          have hm : 0 ≤ m := g2.2 ⟨hlt', rfl⟩
          simp (disch := omega) [L56_0, h2, g1]
        | false =>
          rw [hb] at g2
          have hm : ¬ 0 ≤ m := fun h => by have := (g2.1 h).2; simp at this
          simp (disch := omega) [L56_0, h2, g1]
          exact ⟨e', ⟨H', x1⟩, x2⟩
      · obtain ⟨m, g1, g2⟩ := irune_ok ((decS s i).1 : Nat) (by omega) (by omega) [itRow s (i + (decS s i).2)]
        have hm : ¬ 0 ≤ m := fun h => by have := (g2.1 h).1; omega
        have hle : i + (decS s i).2 ≤ s.length := by
          obtain ⟨c, hc, _⟩ := h4 ((decS s i).2 - 1) (by omega)
          have := (List.getElem?_eq_some_iff.1 hc).1
          omega
        obtain ⟨e', H', x1, x2⟩ := IH (s.length - (i + (decS s i).2)) (by omega) (i + (decS s i).2) (by omega)
        generalize XL T [1, 45] L56_0 = lp at *
        rw [any_none h4]
        generalize (s.drop (i + (decS s i).2)).any isSL = B at *
        simp (disch := omega) [L56_0, g1]
        exact ⟨e', ⟨H', x1⟩, x2⟩
/-- The set. -/
def SETB : List AV := (List.range 256).map fun n => .bool (isSL (UInt8.ofNat n))
theorem setB_len : SETB.length = 256 := by unfold SETB; rw [List.length_map, List.length_range]
theorem z256_len : Z256.length = 256 := List.length_replicate
theorem z256_drop : Z256.drop 256 = [] := List.drop_eq_nil_of_le (by rw [z256_len]; exact Nat.le_refl _)
theorem setB_cells : SETB.all AV.isCell = true := by
  rw [List.all_eq_true]
  intro x hx
  obtain ⟨n, _, rfl⟩ := List.mem_map.1 hx
  rfl
theorem setB_get (c : UInt8) : (SETB.drop c.toNat).take 1 = [.bool (isSL c)] := by
  have h := c.toNat_lt
  have hl : c.toNat < SETB.length := by rw [setB_len]; exact h
  rw [List.drop_eq_getElem_cons hl]
  simp [SETB]
theorem mkset_ok (H : Heap) : C T 70 [.str SL] H = some (.tup [.agg SETB, .bool true], H) := anyH fd70 rfl rfl (C_of 20 (by kernel_rfl)) H
theorem contains_ok (c : UInt8) : C T 71 [.ptr 0 0 0, .int .u8 c.toNat] [⟨SETB, 0, true, .no⟩] = some (.bool (isSL c), [⟨SETB, 0, true, .no⟩]) := by
  rw [q71]
  have h := c.toNat_lt
  have hg := setB_get c
  have hl := setB_len
  simp (disch := omega) [d71, hget, hl, hg]
theorem iset_loop (s : List UInt8) (hs : s.length < 100000000) : ∀ (n i : Nat), i + n = s.length →
    ∃ e', XL T [0, 6, 8] L56_1 [(0, .str s), (6, .ptr 0 0 0), (8, .int .i64 i)] [⟨SETB, 0, true, .no⟩] = some (if (s.drop i).any isSL = true then .ret else .exit 0, e', [⟨SETB, 0, true, .no⟩]) ∧ ((s.drop i).any isSL = true → ∃ m, e'.get 4 = .int .i64 m ∧ 0 ≤ m)
  | 0, i, hn => by
    have hd : s.drop i = [] := List.drop_eq_nil_of_le (by omega)
    rw [hd, XL_eq]
    simp (disch := omega) [L56_1]
  | n + 1, i, hn => by
    have hlt : i < s.length := by omega
    have hd : s.drop i = s[i] :: s.drop (i + 1) := List.drop_eq_getElem_cons hlt
    have ih := iset_loop s hs n (i + 1) (by omega)
    push_cast at ih
    have hc := contains_ok s[i]
    rw [hd, XL_eq, List.any_cons]
    generalize XL T [0, 6, 8] L56_1 = lp at *
    generalize (s.drop (i + 1)).any isSL = B at *
    cases hb : isSL s[i] with
    | true =>
      rw [hb] at hc
      simp (disch := omega) [L56_1, hc]
    | false =>
      rw [hb] at hc
      simp (disch := omega) [L56_1, hc]
      exact ih
theorem iany_ok (s : List UInt8) (hs : s.length < 100000000) (H : Heap) : ∃ m, C T 56 [.str s, .str SL] H = some (.int .i64 m, H) ∧ (0 ≤ m ↔ s.any isSL = true) := by
  suffices h : ∃ m, C T 56 [.str s, .str SL] [] = some (.int .i64 m, []) ∧ (0 ≤ m ↔ s.any isSL = true) by
    obtain ⟨m, h1, h2⟩ := h
    exact ⟨m, anyH fd56 rfl rfl h1 H, h2⟩
  have hsh : ∀ H, C T 69 [.int .i64 s.length] H = some (.bool (decide (8 < s.length)), H) := by
    intro H
    refine anyH fd69 rfl rfl ?_ H
    rw [q69]
    have e : decide ((8 : Int) < s.length) = decide (8 < s.length) := by rw [Bool.eq_iff_iff]; simp; omega
    by_cases h : 8 < s.length <;> simp (disch := omega) [d69, h]
  by_cases h8 : 8 < s.length
  · obtain ⟨e', x1, x2⟩ := iset_loop s hs s.length 0 (by omega)
    simp only [List.drop_zero, Int.natCast_zero] at x1 x2
    have hm0 := mkset_ok []
    have hl := setB_len
    have hz := z256_len
    have hzd := z256_drop
    have hcs := setB_cells
    have hsh := hsh []
    rw [decide_eq_true h8] at hsh
    cases hb : s.any isSL with
    | true =>
      rw [hb] at x1
      obtain ⟨m, g1, g2⟩ := x2 hb
      refine ⟨m, ?_, by simpa using g2⟩
      rw [q56]
      simp only [if_true] at x1
      simp [d56, hsh, hm0, hset, hl, hz, hzd, hcs, x1, g1]
    | false =>
      rw [hb] at x1
      refine ⟨-1, ?_, by simp⟩
      rw [q56]
      simp at x1
      simp [d56, hsh, hm0, hset, hl, hz, hzd, hcs, x1]
  · obtain ⟨e', H', x1, x2⟩ := iany_loop s hs s.length 0 (by omega)
    simp only [List.drop_zero] at x1 x2
    have hsh := hsh []
    rw [decide_eq_false h8] at hsh
    cases hb : s.any isSL with
    | true =>
      rw [hb] at x1
      obtain ⟨m, g1, g2⟩ := x2 hb
      refine ⟨m, ?_, by simpa using g2⟩
      rw [q56]
      simp only [if_true] at x1
      simp [d56, hsh, hnewK, x1, g1]
    | false =>
      rw [hb] at x1
      refine ⟨-1, ?_, by simp⟩
      rw [q56]
      simp at x1
      simp [d56, hsh, hnewK, x1]
theorem cany_ok (s : List UInt8) (hs : s.length < 100000000) (H : Heap) : C T 43 [.str s, .str SL] H = some (.bool (s.any isSL), H) := by
  refine anyH fd43 rfl rfl ?_ H
  rw [q43]
  obtain ⟨m, h1, h2⟩ := iany_ok s hs []
  cases hb : s.any isSL with
  | true =>
    have hm := h2.2 hb
    simp (disch := omega) [d43, h1]
  | false =>
    rw [hb] at h2
    have hm : ¬ 0 ≤ m := fun h => by have := h2.1 h; cases this
    simp (disch := omega) [d43, h1]
end Go.Eng.S
