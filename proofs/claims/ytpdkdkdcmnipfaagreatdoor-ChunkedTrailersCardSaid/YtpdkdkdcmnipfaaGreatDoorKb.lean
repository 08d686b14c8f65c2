/- Strings: cut, trimmed, in a class. No condition. -/
import Derived.Test.YtpdkdkdcmnipfaaGreatDoorPd
import Derived.Lib.Bytealg
namespace Go.Eng.S
open Go Go.Eng
theorem u8_eqlit (a : UInt8) (n : Int) (b : UInt8) (h : (b.toNat : Int) = n) : ((a.toNat : Int) == n) = decide (a = b) := by
  rw [← h, Bool.eq_iff_iff]
  simp only [beq_iff_eq, decide_eq_true_eq]
  exact ⟨fun h => UInt8.toNat_inj.1 (by omega), fun h => by rw [h]⟩
def cutI (c : UInt8) (l : List UInt8) : Nat := (l.takeWhile (· != c)).length
theorem cutI_nil (c : UInt8) : cutI c [] = 0 := rfl
theorem cutI_cons (c a : UInt8) (l : List UInt8) : cutI c (a :: l) = if a = c then 0 else cutI c l + 1 := by
  unfold cutI
  rw [List.takeWhile_cons]
  by_cases h : a = c <;> simp [h]
theorem cutI_lt {c : UInt8} : ∀ {l : List UInt8}, c ∈ l ↔ cutI c l < l.length
  | [] => by simp
  | a :: l => by
    rw [cutI_cons]
    by_cases h : a = c
    · simp [h]
    · have ih := cutI_lt (c := c) (l := l)
      rw [if_neg h, List.length_cons, List.mem_cons, ih]
      constructor
      · rintro (h1 | h1)
        · exact absurd h1.symm h
        · omega
      · intro h1; right; omega
theorem cutI_le (c : UInt8) : ∀ (l : List UInt8), cutI c l ≤ l.length
  | [] => Nat.le_refl _
  | a :: l => by
    rw [cutI_cons]
    split
    · omega
    · have := cutI_le c l; simp; omega
theorem idxB (c : UInt8) : ∀ l : List UInt8, Lib.indexByte l c = if c ∈ l then (cutI c l : Int) else -1
  | [] => rfl
  | a :: l => by
    have ih := idxB c l
    rw [cutI_cons]
    unfold Lib.indexByte
    by_cases h : a = c
    · simp [h]
    · have h2 : c ≠ a := Ne.symm h
      have h3 := cutI_le c l
      rw [ih]
      by_cases hm : c ∈ l <;> simp [h, h2, hm] <;> omega
theorem pf105 : T.fn 105 = some (.prim pIdx) := by kernel_rfl
theorem idxS_ok (s : List UInt8) (c : UInt8) (H : Heap) : C T 97 [.str s, .int .u8 c.toNat] H = some (.int .i64 (if c ∈ s then (cutI c s : Int) else -1), H) := by
  refine anyH fd97 rfl rfl ?_ H
  rw [q97]
  have h : C T 105 [.str s, .int .u8 c.toNat] [] = some (.int .i64 (if c ∈ s then (cutI c s : Int) else -1), []) := by
    rw [C_prim pf105, ← idxB]; simp [pIdx]
  have hp : isPure T 105 = false := by kernel_rfl
  simp [d97, h]
theorem index1_ok (s : List UInt8) (c : UInt8) (H : Heap) : C T 88 [.str s, .str [c]] H = some (.int .i64 (if c ∈ s then (cutI c s : Int) else -1), H) := by
  refine anyH fd88 rfl rfl ?_ H
  rw [q88]
  have h := idxS_ok s c []
  by_cases hs : [c] = s
  · subst hs
    simp [d88, cutI]
  · have hs' : ([c] == s) = false := by simpa using hs
    simp [d88, hs', h]
def cutV (c : UInt8) (s : List UInt8) : List AV := if c ∈ s then [.str (s.take (cutI c s)), .str (s.drop (cutI c s + 1)), .bool true] else [.str s, .str [], .bool false]
theorem cutL_ok (s : List UInt8) (hs : s.length < 1000000000) (c : UInt8) (H : Heap) : C T 71 [.str s, .str [c]] H = some (.tup (cutV c s), H) := by
  refine anyH fd71 rfl rfl ?_ H
  rw [q71]
  have h := index1_ok s c []
  have hle := cutI_le c s
  unfold cutV
  by_cases hc : c ∈ s
  · have hlt := cutI_lt.1 hc
    rw [if_pos hc] at h
    generalize cutI c s = n at *
    simp (disch := omega) [d71, hc, h]
  · rw [if_neg hc] at h
    simp (disch := omega) [d71, hc, h]
theorem cut1_ok (s : List UInt8) (hs : s.length < 1000000000) (c : UInt8) (H : Heap) : C T 55 [.str s, .str [c]] H = some (.tup (cutV c s), H) := by
  refine anyH fd55 rfl rfl ?_ H
  rw [q55]
  have h := cutL_ok s hs c []
  unfold cutV at *
  by_cases hc : c ∈ s <;> simp [hc] at h <;> simp [d55, hc, h]

theorem all_loop {f : Nat} {hol : UInt8 → Bool} (hf : ∀ c, C T f [.int .u8 c.toNat] [] = some (.bool (hol c), [])) (s : List UInt8) (hs : s.length < 1000000000) : ∀ (k i : Nat), i + k = s.length →
    ∃ e', XL T [0, 1, 7, 8] L58_0 [(0, .str s), (1, .fn (.func f) [] []), (7, .int .i64 s.length), (8, .int .i64 i)] [] = some (if (s.drop i).all hol = true then .exit 0 else .ret, e', []) ∧ ((s.drop i).all hol = false → e'.get 4 = .bool false)
  | 0, i, hk => by
    have hd : s.drop i = [] := List.drop_eq_nil_of_le (by omega)
    rw [XL_eq, hd]
    simp [L58_0, show ¬ i < s.length by omega]
  | k + 1, i, hk => by
    have hlt : i < s.length := by omega
    have hd : s.drop i = s[i] :: s.drop (i + 1) := List.drop_eq_getElem_cons hlt
    have ih := all_loop hf s hs k (i + 1) (by omega)
    push_cast at ih
    have hc := hf s[i]
    rw [hd, XL_eq, List.all_cons]
    generalize XL T [0, 1, 7, 8] L58_0 = lp at *
    generalize (s.drop (i + 1)).all hol = R at *
    cases hh : hol s[i] with
    | false =>
      rw [hh] at hc
      simp (disch := omega) [L58_0, hlt, hc]
    | true =>
      rw [hh] at hc
      simp (disch := omega) [L58_0, hlt, hc]
      exact ih
theorem all_ok {f : Nat} {hol : UInt8 → Bool} (hf : ∀ c, C T f [.int .u8 c.toNat] [] = some (.bool (hol c), [])) (s : List UInt8) (hs : s.length < 1000000000) (H : Heap) :
    C T 58 [.str s, .fn (.func f) [] []] H = some (.bool (s.all hol), H) := by
  refine anyH fd58 rfl rfl ?_ H
  rw [q58]
  have hsf : ∀ (k : Nat) (H : Heap), snap (k + 1) H (.fn (.func f) [] []) = some (.fn (.func f) [] [], H) := fun _ _ => rfl
  obtain ⟨e', h1, h2⟩ := all_loop hf s hs s.length 0 (by omega)
  simp only [List.drop_zero, Int.natCast_zero] at h1 h2
  cases ha : s.all hol with
  | true =>
    rw [ha] at h1
    simp only [if_true] at h1
    simp [d58, h1, hsf]
  | false =>
    rw [ha] at h1
    simp at h1
    simp [d58, h1, hsf, h2 ha]
theorem field_ok (c : UInt8) (H : Heap) : C T 59 [.int .u8 c.toNat] H = some (.bool (clsB 5 c), H) := by
  refine anyH fd59 rfl rfl ?_ H
  have := all256 (p := fun n => isB (acall T 20 59 [.int .u8 n] []) (clsB 5 (UInt8.ofNat n))) (by decide +kernel) c
  rw [UInt8.ofNat_toNat] at this
  exact C_of 20 (of_isB this)
theorem token_ok (c : UInt8) (H : Heap) : C T 93 [.int .u8 c.toNat] H = some (.bool (clsB 2 c), H) := by
  refine anyH fd93 rfl rfl ?_ H
  have := all256 (p := fun n => isB (acall T 20 93 [.int .u8 n] []) (clsB 2 (UInt8.ofNat n))) (by decide +kernel) c
  rw [UInt8.ofNat_toNat] at this
  exact C_of 20 (of_isB this)
def blk (c : UInt8) : Bool := c == 32 || c == 9
theorem blank_ok (c : UInt8) (H : Heap) : C T 94 [.int .u8 c.toNat] H = some (.bool (blk c), H) := by
  refine anyH fd94 rfl rfl ?_ H
  have := all256 (p := fun n => isB (acall T 20 94 [.int .u8 n] []) (blk (UInt8.ofNat n))) (by decide +kernel) c
  rw [UInt8.ofNat_toNat] at this
  exact C_of 20 (of_isB this)
def isTok (s : List UInt8) : Bool := !s.isEmpty && s.all (clsB 2)
theorem istok_ok (s : List UInt8) (hs : s.length < 1000000000) (H : Heap) : C T 79 [.str s] H = some (.bool (isTok s), H) := by
  refine anyH fd79 rfl rfl ?_ H
  rw [q79]
  have h := all_ok (fun c => token_ok c []) s hs []
  unfold isTok
  cases s with
  | nil => simp [d79]
  | cons a r => simp [d79, h]
end Go.Eng.S
