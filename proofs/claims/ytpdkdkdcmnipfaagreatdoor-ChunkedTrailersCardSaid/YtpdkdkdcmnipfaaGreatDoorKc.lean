/- Strings without blanks around them; fields of lines. No condition. -/
import Derived.Test.YtpdkdkdcmnipfaaGreatDoorKb
namespace Go.Eng.S
open Go Go.Eng
def trimR (s : List UInt8) : List UInt8 := (s.reverse.dropWhile blk).reverse
theorem trimR_nil : trimR [] = [] := rfl
theorem trimR_app (s : List UInt8) (c : UInt8) : trimR (s ++ [c]) = if blk c = true then trimR s else s ++ [c] := by
  unfold trimR
  rw [List.reverse_append, List.reverse_singleton, List.singleton_append, List.dropWhile_cons]
  split <;> simp
theorem trimR_len : ∀ (n : Nat) (s : List UInt8), s.length = n → (trimR s).length ≤ n
  | 0, s, h => by obtain rfl := List.length_eq_zero_iff.1 h; exact Nat.le_refl _
  | n + 1, s, h => by
    obtain ⟨t, c, rfl⟩ : ∃ t c, s = t ++ [c] := ⟨s.dropLast, s.getLast (by intro e; simp [e] at h), (List.dropLast_concat_getLast _).symm⟩
    have ht : t.length = n := by simpa using h
    rw [trimR_app]
    split
    · have := trimR_len n t ht; omega
    · omega
theorem snoc_of {s : List UInt8} {n : Nat} (h : s.length = n + 1) : ∃ t c, s = t ++ [c] ∧ t.length = n :=
  ⟨s.dropLast, s.getLast (by intro e; simp [e] at h), (List.dropLast_concat_getLast _).symm, by simp [h]⟩
theorem snoc_get (t : List UInt8) (c : UInt8) : (t ++ [c])[t.length]? = some c := by simp

/-- The bytes that are blanks. -/
def SETB : List AV := (List.range 256).map fun n => .bool (blk (UInt8.ofNat n))
theorem setB_len : SETB.length = 256 := by unfold SETB; rw [List.length_map, List.length_range]
theorem z256_len : Z256.length = 256 := List.length_replicate
theorem z256_drop : Z256.drop 256 = [] := List.drop_eq_nil_of_le (by rw [z256_len]; exact Nat.le_refl _)
theorem setB_cells : SETB.all AV.isCell = true := by
  rw [List.all_eq_true]
  intro x hx
  obtain ⟨n, _, rfl⟩ := List.mem_map.1 hx
  rfl
theorem setB_get (c : UInt8) : (SETB.drop c.toNat).take 1 = [.bool (blk c)] := by
  have h := c.toNat_lt
  have hl : c.toNat < SETB.length := by rw [setB_len]; exact h
  rw [List.drop_eq_getElem_cons hl]
  simp [SETB]
theorem mkset_ok (H : Heap) : C T 73 [.str [32, 9]] H = some (.tup [.agg SETB, .bool true], H) := anyH fd73 rfl rfl (C_of 20 (by kernel_rfl)) H
theorem contains_ok (c : UInt8) : C T 89 [.ptr 0 0 0, .int .u8 c.toNat] [⟨SETB, 0, true⟩] = some (.bool (blk c), [⟨SETB, 0, true⟩]) := by
  rw [q89]
  have h := c.toNat_lt
  have hg := setB_get c
  have hl := setB_len
  simp (disch := omega) [d89, hget, hl, hg]
theorem trimA_loop : ∀ (n : Nat) (s : List UInt8), s.length = n → s.length < 1000000000 →
    ∃ e', XL T [0, 1] L74_0 [(0, .str s), (1, .ptr 0 0 0)] [⟨SETB, 0, true⟩] = some (.exit 0, e', [⟨SETB, 0, true⟩]) ∧ e'.get 0 = .str (trimR s)
  | 0, s, h, _ => by
    obtain rfl := List.length_eq_zero_iff.1 h
    rw [XL_eq]
    simp [L74_0, trimR_nil]
  | n + 1, s, h, hs => by
    obtain ⟨t, c, rfl, ht⟩ := snoc_of h
    have ih := trimA_loop n t ht (by simp at hs; omega)
    have hc := contains_ok c
    rw [XL_eq, trimR_app]
    generalize XL T [0, 1] L74_0 = lp at *
    have e1 : ((t.length : Int) + 1 - 1) = t.length := by omega
    simp only [List.length_append, List.length_singleton] at hs
    cases hb : blk c with
    | true =>
      rw [hb] at hc
      simp (disch := omega) [L74_0, e1, hc]
      exact ih
    | false =>
      rw [hb] at hc
      simp (disch := omega) [L74_0, e1, hc]
theorem trimRight_ok (s : List UInt8) (hs : s.length < 1000000000) (H : Heap) : C T 57 [.str s, .str [32, 9]] H = some (.str (trimR s), H) := by
  refine anyH fd57 rfl rfl ?_ H
  rw [q57]
  have hm := mkset_ok [⟨Z256, 0, true⟩]
  have hm0 := mkset_ok []
  obtain ⟨e', h1, h2⟩ := trimA_loop _ s rfl hs
  have ha : C T 74 [.str s, .ptr 0 0 0] [⟨SETB, 0, true⟩] = some (.str (trimR s), [⟨SETB, 0, true⟩]) := by
    rw [q74]
    simp [d74, h1, h2]
  have hl := setB_len
  have hz := z256_len
  have hzd := z256_drop
  have hcs := setB_cells
  cases s with
  | nil => simp [d57, trimR_nil]
  | cons a r => simp [d57, hm0, hset, hl, hz, hzd, hcs, ha]

def trimL (s : List UInt8) : List UInt8 := s.dropWhile blk
theorem trimL_loop : ∀ (s : List UInt8), s.length < 1000000000 → ∃ e', XL T [0] L81_1 [(0, .str s)] [] = some (.exit 0, e', []) ∧ e'.get 0 = .str (trimL s)
  | [], _ => by
    rw [XL_eq]
    simp [L81_1, trimL]
  | a :: r, hs => by
    have ih := trimL_loop r (by simp at hs; omega)
    have hb := blank_ok a []
    rw [XL_eq]
    generalize XL T [0] L81_1 = lp at *
    simp only [List.length_cons] at hs
    unfold trimL at *
    rw [List.dropWhile_cons]
    cases h : blk a with
    | true =>
      rw [h] at hb
      simp (disch := omega) [L81_1, hb]
      exact ih
    | false =>
      rw [h] at hb
      simp (disch := omega) [L81_1, hb]
theorem trimR_loop : ∀ (n : Nat) (s : List UInt8), s.length = n → s.length < 1000000000 → ∃ e', XL T [0] L81_0 [(0, .str s)] [] = some (.exit 2, e', []) ∧ e'.get 0 = .str (trimR s)
  | 0, s, h, _ => by
    obtain rfl := List.length_eq_zero_iff.1 h
    rw [XL_eq]
    simp [L81_0, trimR_nil]
  | n + 1, s, h, hs => by
    obtain ⟨t, c, rfl, ht⟩ := snoc_of h
    have ih := trimR_loop n t ht (by simp at hs; omega)
    have hb := blank_ok c []
    have e1 : ((t.length : Int) + 1 - 1) = t.length := by omega
    have hne : (t ++ [c] == []) = false := by simp
    rw [XL_eq, trimR_app]
    generalize XL T [0] L81_0 = lp at *
    simp only [List.length_append, List.length_singleton] at hs
    cases h : blk c with
    | true =>
      rw [h] at hb
      simp (disch := omega) [L81_0, e1, hb, hne]
      exact ih
    | false =>
      rw [h] at hb
      simp (disch := omega) [L81_0, e1, hb, hne]
theorem trimL_len (s : List UInt8) : (trimL s).length ≤ s.length := (List.dropWhile_sublist blk).length_le
theorem trim_ok (s : List UInt8) (hs : s.length < 1000000000) (H : Heap) : C T 81 [.str s] H = some (.str (trimR (trimL s)), H) := by
  refine anyH fd81 rfl rfl ?_ H
  rw [q81]
  obtain ⟨e1, h1, h2⟩ := trimL_loop s hs
  have hl := trimL_len s
  obtain ⟨e2, h3, h4⟩ := trimR_loop _ (trimL s) rfl (by omega)
  simp [d81, h1, h2, h3, h4]
end Go.Eng.S
