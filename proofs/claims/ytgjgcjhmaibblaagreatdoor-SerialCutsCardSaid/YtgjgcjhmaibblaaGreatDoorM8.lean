/- Strings in a class, without blanks around them. No condition. -/
import Derived.Test.YtgjgcjhmaibblaaGreatDoorM7
namespace Go.Eng.S
open Go Go.Eng
set_option linter.unusedSectionVars false
variable [Sit]
set_option maxRecDepth 20000
theorem all_loop {f : Nat} {hol : UInt8 → Bool} (hf : ∀ c, C T f [.int .u8 c.toNat] [] = some (.bool (hol c), [])) (s : List UInt8) (hs : s.length < 1000000000) : ∀ (k i : Nat), i + k = s.length →
    ∃ e', XL T [0, 1, 7, 8] L24_0 [(0, .str s), (1, .fn (.func f) [] []), (7, .int .i64 s.length), (8, .int .i64 i)] [] = some (if (s.drop i).all hol = true then .exit 0 else .ret, e', []) ∧ ((s.drop i).all hol = false → e'.get 4 = .bool false)
  | 0, i, hk => by
    have hd : s.drop i = [] := List.drop_eq_nil_of_le (by omega)
    rw [XL_eq, hd]
    simp [L24_0, show ¬ i < s.length by omega]
  | k + 1, i, hk => by
    have hlt : i < s.length := by omega
    have hd : s.drop i = s[i] :: s.drop (i + 1) := List.drop_eq_getElem_cons hlt
    have ih := all_loop hf s hs k (i + 1) (by omega)
    push_cast at ih
    have hc := hf s[i]
    rw [hd, XL_eq, List.all_cons]
    generalize XL T [0, 1, 7, 8] L24_0 = lp at *
    generalize (s.drop (i + 1)).all hol = R at *
    cases hh : hol s[i] with
    | false =>
      rw [hh] at hc
      simp (disch := omega) [L24_0, hlt, hc]
    | true =>
      rw [hh] at hc
      simp (disch := omega) [L24_0, hlt, hc]
      exact ih
theorem all_ok {f : Nat} {hol : UInt8 → Bool} (hf : ∀ c, C T f [.int .u8 c.toNat] [] = some (.bool (hol c), [])) (s : List UInt8) (hs : s.length < 1000000000) (H : Heap) :
    C T 24 [.str s, .fn (.func f) [] []] H = some (.bool (s.all hol), H) := by
  refine anyH fd24 rfl rfl ?_ H
  rw [q24]
  have hsf : ∀ (k : Nat) (H : Heap), snap (k + 1) H (.fn (.func f) [] []) = some (.fn (.func f) [] [], H) := fun _ _ => rfl
  obtain ⟨e', h1, h2⟩ := all_loop hf s hs s.length 0 (by omega)
  simp only [List.drop_zero, Int.natCast_zero] at h1 h2
  cases ha : s.all hol with
  | true =>
    rw [ha] at h1
    simp only [if_true] at h1
    simp [d24, h1, hsf]
  | false =>
    rw [ha] at h1
    simp at h1
    simp [d24, h1, hsf, h2 ha]
theorem field_ok (c : UInt8) (H : Heap) : C T 25 [.int .u8 c.toNat] H = some (.bool (clsB 5 c), H) := by
  refine anyH fd25 rfl rfl ?_ H
  have := all256 (p := fun n => isB (acall T 20 25 [.int .u8 n] []) (clsB 5 (UInt8.ofNat n))) (by kernel_rfl) c
  rw [UInt8.ofNat_toNat] at this
  exact C_of 20 (of_isB this)
theorem token_ok (c : UInt8) (H : Heap) : C T 40 [.int .u8 c.toNat] H = some (.bool (clsB 2 c), H) := by
  refine anyH fd40 rfl rfl ?_ H
  have := all256 (p := fun n => isB (acall T 20 40 [.int .u8 n] []) (clsB 2 (UInt8.ofNat n))) (by kernel_rfl) c
  rw [UInt8.ofNat_toNat] at this
  exact C_of 20 (of_isB this)
def blk (c : UInt8) : Bool := c == 32 || c == 9
theorem blank_ok (c : UInt8) (H : Heap) : C T 42 [.int .u8 c.toNat] H = some (.bool (blk c), H) := by
  refine anyH fd42 rfl rfl ?_ H
  have := all256 (p := fun n => isB (acall T 20 42 [.int .u8 n] []) (blk (UInt8.ofNat n))) (by kernel_rfl) c
  rw [UInt8.ofNat_toNat] at this
  exact C_of 20 (of_isB this)
def isTok (s : List UInt8) : Bool := !s.isEmpty && s.all (clsB 2)
theorem istok_ok (s : List UInt8) (hs : s.length < 1000000000) (H : Heap) : C T 23 [.str s] H = some (.bool (isTok s), H) := by
  refine anyH fd23 rfl rfl ?_ H
  rw [q23]
  have h := all_ok (fun c => token_ok c []) s hs []
  unfold isTok
  cases s with
  | nil => simp [d23]
  | cons a r => simp [d23, h]

def trimR (s : List UInt8) : List UInt8 := (s.reverse.dropWhile blk).reverse
theorem trimR_nil : trimR [] = [] := rfl
theorem trimR_app (s : List UInt8) (c : UInt8) : trimR (s ++ [c]) = if blk c = true then trimR s else s ++ [c] := by
  unfold trimR
  rw [List.reverse_append, List.reverse_singleton, List.singleton_append, List.dropWhile_cons]
  split <;> simp
theorem trimR_len : ∀ (n : Nat) (s : List UInt8), s.length = n → (trimR s).length ≤ n
  | 0, s, h => by obtain rfl := List.length_eq_zero_iff.1 h; exact Nat.le_refl _
  | n + 1, s, h => by
    obtain ⟨t, c, rfl⟩ : ∃ t c, s = t ++ [c] := ⟨s.dropLast, s.getLast (by intro e; simp [e] at h), (List.dropLast_concat_getLast _).symm⟩
    have ht : t.length = n := by simpa using h
    rw [trimR_app]
    split
    · have := trimR_len n t ht; omega
    · omega
theorem snoc_of {s : List UInt8} {n : Nat} (h : s.length = n + 1) : ∃ t c, s = t ++ [c] ∧ t.length = n :=
  ⟨s.dropLast, s.getLast (by intro e; simp [e] at h), (List.dropLast_concat_getLast _).symm, by simp [h]⟩
theorem snoc_get (t : List UInt8) (c : UInt8) : (t ++ [c])[t.length]? = some c := by simp

def trimL (s : List UInt8) : List UInt8 := s.dropWhile blk
theorem trimL_loop : ∀ (s : List UInt8), s.length < 1000000000 → ∃ e', XL T [0] L26_1 [(0, .str s)] [] = some (.exit 0, e', []) ∧ e'.get 0 = .str (trimL s)
  | [], _ => by
    rw [XL_eq]
    simp [L26_1, trimL]
  | a :: r, hs => by
    have ih := trimL_loop r (by simp at hs; omega)
    have hb := blank_ok a []
    rw [XL_eq]
    generalize XL T [0] L26_1 = lp at *
    simp only [List.length_cons] at hs
    unfold trimL at *
    rw [List.dropWhile_cons]
    cases h : blk a with
    | true =>
      rw [h] at hb
      simp (disch := omega) [L26_1, hb]
      exact ih
    | false =>
      rw [h] at hb
      simp (disch := omega) [L26_1, hb]
theorem trimR_loop : ∀ (n : Nat) (s : List UInt8), s.length = n → s.length < 1000000000 → ∃ e', XL T [0] L26_0 [(0, .str s)] [] = some (.exit 2, e', []) ∧ e'.get 0 = .str (trimR s)
  | 0, s, h, _ => by
    obtain rfl := List.length_eq_zero_iff.1 h
    rw [XL_eq]
    simp [L26_0, trimR_nil]
  | n + 1, s, h, hs => by
    obtain ⟨t, c, rfl, ht⟩ := snoc_of h
    have ih := trimR_loop n t ht (by simp at hs; omega)
    have hb := blank_ok c []
    have e1 : ((t.length : Int) + 1 - 1) = t.length := by omega
    have hne : (t ++ [c] == []) = false := by simp
    rw [XL_eq, trimR_app]
    generalize XL T [0] L26_0 = lp at *
    simp only [List.length_append, List.length_singleton] at hs
    cases h : blk c with
    | true =>
      rw [h] at hb
      simp (disch := omega) [L26_0, e1, hb, hne]
      exact ih
    | false =>
      rw [h] at hb
      simp (disch := omega) [L26_0, e1, hb, hne]
theorem trimL_len (s : List UInt8) : (trimL s).length ≤ s.length := (List.dropWhile_sublist blk).length_le
theorem rall_loop (q : Nat) (hq : q ≤ 5) (s : List UInt8) (hs : s.length < 1000000000) : ∀ (k i : Nat), i + k = s.length →
    ∃ e', XL T [0, 1, 5] L50_0 [(0, .str s), (1, .int .i64 q), (5, .int .i64 i)] [] = some (if (s.drop i).all (clsB q) = true then .exit 0 else .ret, e', []) ∧ ((s.drop i).all (clsB q) = false → e'.get 4 = .bool false)
  | 0, i, hk => by
    have hd : s.drop i = [] := List.drop_eq_nil_of_le (by omega)
    rw [XL_eq, hd]
    simp [L50_0, show ¬ i < s.length by omega]
  | k + 1, i, hk => by
    have hlt : i < s.length := by omega
    have hd : s.drop i = s[i] :: s.drop (i + 1) := List.drop_eq_getElem_cons hlt
    have ih := rall_loop q hq s hs k (i + 1) (by omega)
    push_cast at ih
    have hc := class_ok s[i] q hq []
    rw [hd, XL_eq, List.all_cons]
    generalize XL T [0, 1, 5] L50_0 = lp at *
    generalize (s.drop (i + 1)).all (clsB q) = R at *
    cases hh : clsB q s[i] with
    | false =>
      rw [hh] at hc
      simp (disch := omega) [L50_0, hlt, hc]
    | true =>
      rw [hh] at hc
      simp (disch := omega) [L50_0, hlt, hc]
      exact ih
theorem rall_ok (q : Nat) (hq : q ≤ 5) (s : List UInt8) (hs : s.length < 1000000000) (H : Heap) :
    C T 50 [.str s, .int .i64 q] H = some (.bool (s.all (clsB q)), H) := by
  refine anyH fd50 rfl rfl ?_ H
  rw [q50]
  obtain ⟨e', h1, h2⟩ := rall_loop q hq s hs s.length 0 (by omega)
  simp only [List.drop_zero, Int.natCast_zero] at h1 h2
  cases ha : s.all (clsB q) with
  | true =>
    rw [ha] at h1
    simp only [if_true] at h1
    simp [d50, h1]
  | false =>
    rw [ha] at h1
    simp at h1
    simp [d50, h1, h2 ha]
theorem ristok_ok (s : List UInt8) (hs : s.length < 1000000000) (H : Heap) : C T 49 [.str s] H = some (.bool (isTok s), H) := by
  refine anyH fd49 rfl rfl ?_ H
  rw [q49]
  have h := rall_ok 2 (by decide) s hs []
  unfold isTok
  simp at h
  cases s with
  | nil => simp [d49]
  | cons a r =>
    have : (0 : Int) < (r.length : Int) + 1 := by omega
    simp [d49, h, this]

def blkN (l : List UInt8) : Nat := (l.takeWhile blk).length
theorem trimL_drop (l : List UInt8) : l.drop (blkN l) = trimL l := by
  unfold blkN trimL
  induction l with
  | nil => rfl
  | cons a r ih =>
    rw [List.takeWhile_cons, List.dropWhile_cons]
    split
    · simpa using ih
    · rfl
theorem blkN_le (l : List UInt8) : blkN l ≤ l.length := (List.takeWhile_sublist blk).length_le
theorem blk_32 (c : UInt8) (h : c = 32) : blk c = true := by subst h; rfl
theorem blk_9 (c : UInt8) (h : c = 9) : blk c = true := by subst h; rfl
theorem blk_no (c : UInt8) (h : c ≠ 32) (h2 : c ≠ 9) : blk c = false := by simp [blk, h, h2]
theorem rtrimL_loop (s : List UInt8) (hs : s.length < 1000000000) : ∀ (k i : Nat), i + k = s.length →
    ∃ e', XL T [0, 3] L51_1 [(0, .str s), (3, .int .i64 i)] [] = some (.exit 0, e', []) ∧ e'.get 0 = .str s ∧ e'.get 3 = .int .i64 (i + blkN (s.drop i) : Nat)
  | 0, i, hk => by
    have hd : s.drop i = [] := List.drop_eq_nil_of_le (by omega)
    rw [XL_eq, hd]
    simp [L51_1, blkN, show ¬ i < s.length by omega]
  | k + 1, i, hk => by
    have hlt : i < s.length := by omega
    have hlt' : (i : Int) < s.length := by omega
    have hd : s.drop i = s[i] :: s.drop (i + 1) := List.drop_eq_getElem_cons hlt
    have ih := rtrimL_loop s hs k (i + 1) (by omega)
    have e32 := u8_eqlit s[i] 32 32 rfl
    have e9 := u8_eqlit s[i] 9 9 rfl
    have hN : blkN (s[i] :: s.drop (i + 1)) = if blk s[i] = true then blkN (s.drop (i + 1)) + 1 else 0 := by
      unfold blkN; rw [List.takeWhile_cons]; split <;> simp
    rw [hd, XL_eq, hN]
    generalize XL T [0, 3] L51_1 = lp at *
    generalize blkN (s.drop (i + 1)) = N at *
    have eN : i + 1 + N = i + (N + 1) := by omega
    rw [eN] at ih
    push_cast at ih
    by_cases h1 : s[i] = 32
    · rw [if_pos (blk_32 _ h1)]
      simp (disch := omega) [L51_1, hlt', h1]
      exact ih
    · by_cases h2 : s[i] = 9
      · rw [if_pos (blk_9 _ h2)]
        rw [h2] at e32 e9
        simp at e32
        simp (disch := omega) [L51_1, hlt', h2]
        exact ih
      · rw [if_neg (by rw [blk_no _ h1 h2]; simp)]
        simp (disch := omega) [L51_1, hlt', e32, e9, h1, h2]
theorem trimR_take : ∀ (n : Nat) (s : List UInt8), s.length = n → s.take (trimR s).length = trimR s
  | 0, s, h => by obtain rfl := List.length_eq_zero_iff.1 h; rfl
  | n + 1, s, h => by
    obtain ⟨t, c, rfl, ht⟩ := snoc_of h
    rw [trimR_app]
    split
    · have h1 := trimR_len n t ht
      rw [List.take_append_of_le_length (by omega), trimR_take n t ht]
    · exact List.take_length
def trN (s : List UInt8) (f t : Nat) : Nat := f + (trimR ((s.take t).drop f)).length
theorem trN_succ (s : List UInt8) (f t : Nat) (h : f ≤ t) (ht : t < s.length) : trN s f (t + 1) = if blk s[t] = true then trN s f t else t + 1 := by
  unfold trN
  have e : (s.take (t + 1)).drop f = (s.take t).drop f ++ [s[t]] := by
    rw [List.take_succ_eq_append_getElem ht, List.drop_append_of_le_length (by simp; omega)]
  rw [e, trimR_app]
  split
  · rfl
  · simp; omega
theorem rtrimR_loop (s : List UInt8) (hs : s.length < 1000000000) (f : Nat) : ∀ (k t : Nat), f + k = t → t ≤ s.length →
    ∃ e', XL T [0, 3, 4] L51_0 [(0, .str s), (3, .int .i64 f), (4, .int .i64 t)] [] = some (.exit 2, e', []) ∧ e'.get 0 = .str s ∧ e'.get 3 = .int .i64 f ∧ e'.get 4 = .int .i64 (trN s f t : Nat)
  | 0, t, hk, ht => by
    have : f = t := by omega
    subst this
    have hN : trN s f f = f := by unfold trN; rw [List.drop_eq_nil_of_le (by simp; omega)]; rfl
    rw [XL_eq, hN]
    simp [L51_0]
  | k + 1, t, hk, ht => by
    obtain ⟨u, rfl⟩ : ∃ u, t = u + 1 := ⟨t - 1, by omega⟩
    have hlt : u < s.length := by omega
    have hfu : (f : Int) < (u : Int) + 1 := by omega
    have ih := rtrimR_loop s hs f k u (by omega) (by omega)
    have e32 := u8_eqlit s[u] 32 32 rfl
    have e9 := u8_eqlit s[u] 9 9 rfl
    have e1 : ((u : Int) + 1 - 1) = u := by omega
    rw [XL_eq, trN_succ s f u (by omega) hlt]
    generalize XL T [0, 3, 4] L51_0 = lp at *
    generalize trN s f u = N at *
    by_cases h1 : s[u] = 32
    · rw [if_pos (blk_32 _ h1)]
      simp (disch := omega) [L51_0, hfu, e1, h1]
      exact ih
    · by_cases h2 : s[u] = 9
      · rw [if_pos (blk_9 _ h2)]
        rw [h2] at e32 e9
        simp at e32
        simp (disch := omega) [L51_0, hfu, e1, h2]
        exact ih
      · rw [if_neg (by rw [blk_no _ h1 h2]; simp)]
        simp (disch := omega) [L51_0, hfu, e1, e32, e9, h1, h2]
theorem rtrim_ok (s : List UInt8) (hs : s.length < 1000000000) (H : Heap) : C T 51 [.str s] H = some (.str (trimR (trimL s)), H) := by
  refine anyH fd51 rfl rfl ?_ H
  rw [q51]
  obtain ⟨e1, h1, h2, h3⟩ := rtrimL_loop s hs s.length 0 (by omega)
  simp only [List.drop_zero, Int.natCast_zero, Nat.zero_add] at h1 h3
  have hle := blkN_le s
  obtain ⟨e2, g1, g2, g3, g4⟩ := rtrimR_loop s hs (blkN s) (s.length - blkN s) s.length (by omega) (Nat.le_refl _)
  have hdr : (s.take (trN s (blkN s) s.length)).drop (blkN s) = trimR (trimL s) := by
    unfold trN
    rw [List.take_length, trimL_drop, List.drop_take, trimL_drop, Nat.add_sub_cancel_left, trimR_take _ _ rfl]
  have hle2 : trN s (blkN s) s.length ≤ s.length := by
    unfold trN
    rw [List.take_length, trimL_drop]
    have h1 := trimR_len _ (trimL s) rfl
    have h2 : (trimL s).length = s.length - blkN s := by rw [← trimL_drop, List.length_drop]
    omega
  have hle3 : blkN s ≤ trN s (blkN s) s.length := by unfold trN; omega
  generalize trN s (blkN s) s.length = t' at *
  generalize blkN s = f at *
  simp (disch := omega) [d51, h1, h2, h3, g1, g2, g3, g4, hdr]

end Go.Eng.S
