/- Bytes found in strings. The library's search for a colon and a blank: the rolling hash. The library's search for a colon and a blank, and what it cuts. Index and Cut at a colon and a blank. No condition. -/
import Derived.Test.YtgjgcjhmaibblaaGreatDoorTp
import Derived.Lib.IndexLaws
namespace Go.Eng.S
open Go Go.Eng
set_option linter.unusedSectionVars false
variable [Sit]
theorem u8_beq (a b : UInt8) : ((a.toNat : Int) == (b.toNat : Int)) = decide (a = b) := by
  rw [Bool.eq_iff_iff]
  simp only [beq_iff_eq, decide_eq_true_eq]
  exact ⟨fun h => UInt8.toNat_inj.1 (by omega), fun h => by rw [h]⟩
theorem u8_eqlit (a : UInt8) (n : Int) (b : UInt8) (h : (b.toNat : Int) = n) : ((a.toNat : Int) == n) = decide (a = b) := by
  rw [← h, Bool.eq_iff_iff]
  simp only [beq_iff_eq, decide_eq_true_eq]
  exact ⟨fun h => UInt8.toNat_inj.1 (by omega), fun h => by rw [h]⟩
def cutI (c : UInt8) (l : List UInt8) : Nat := (l.takeWhile (· != c)).length
theorem cutI_nil (c : UInt8) : cutI c [] = 0 := rfl
theorem cutI_cons (c a : UInt8) (l : List UInt8) : cutI c (a :: l) = if a = c then 0 else cutI c l + 1 := by
  unfold cutI
  rw [List.takeWhile_cons]
  by_cases h : a = c <;> simp [h]
theorem cutI_lt {c : UInt8} : ∀ {l : List UInt8}, c ∈ l ↔ cutI c l < l.length
  | [] => by simp
  | a :: l => by
    rw [cutI_cons]
    by_cases h : a = c
    · simp [h]
    · have ih := cutI_lt (c := c) (l := l)
      rw [if_neg h, List.length_cons, List.mem_cons, ih]
      constructor
      · rintro (h1 | h1)
        · exact absurd h1.symm h
        · omega
      · intro h1; right; omega
theorem cutI_le (c : UInt8) : ∀ (l : List UInt8), cutI c l ≤ l.length
  | [] => Nat.le_refl _
  | a :: l => by
    rw [cutI_cons]
    split
    · omega
    · have := cutI_le c l; simp; omega
theorem idxB (c : UInt8) : ∀ l : List UInt8, Lib.indexByte l c = if c ∈ l then (cutI c l : Int) else -1
  | [] => rfl
  | a :: l => by
    have ih := idxB c l
    rw [cutI_cons]
    unfold Lib.indexByte
    by_cases h : a = c
    · simp [h]
    · have h2 : c ≠ a := Ne.symm h
      have h3 := cutI_le c l
      rw [ih]
      by_cases hm : c ∈ l <;> simp [h, h2, hm] <;> omega
theorem pf94 : T.fn 94 = some (.prim pIdx) := by kernel_rfl
theorem idxS_ok (s : List UInt8) (c : UInt8) (H : Heap) : C T 89 [.str s, .int .u8 c.toNat] H = some (.int .i64 (if c ∈ s then (cutI c s : Int) else -1), H) := by
  refine anyH fd89 rfl rfl ?_ H
  rw [q89]
  have h : C T 94 [.str s, .int .u8 c.toNat] [] = some (.int .i64 (if c ∈ s then (cutI c s : Int) else -1), []) := by
    rw [C_prim pf94, ← idxB]; simp [pIdx]
  have hp : isPure T 94 = false := by kernel_rfl
  simp [d89, h]
end Go.Eng.S
namespace Go.Eng.S
open Go Go.Eng
set_option linter.unusedSectionVars false
variable [Sit]
set_option maxRecDepth 20000
abbrev cb : List UInt8 := [58, 32]
/-- The first place of a colon with a blank behind it. -/
def idx2 : List UInt8 → Option Nat
  | [] => none
  | [_] => none
  | a :: b :: r => if a = 58 ∧ b = 32 then some 0 else (idx2 (b :: r)).map (· + 1)
def ix2 (s : List UInt8) : Int := match idx2 s with
  | some i => i
  | none => -1
theorem idx2_lib : ∀ s : List UInt8, Lib.index s cb = ix2 s
  | [] => rfl
  | [a] => by
    unfold Lib.index ix2 idx2
    by_cases h : a = 58 <;> simp [h, List.isPrefixOf, Lib.index]
  | a :: b :: r => by
    have ih := idx2_lib (b :: r)
    unfold Lib.index ix2 idx2
    rw [ih]
    by_cases h : a = 58 ∧ b = 32
    · simp [h, List.isPrefixOf]
    · have hp : List.isPrefixOf cb (a :: b :: r) = false := by
        simp only [List.isPrefixOf, Bool.and_true, Bool.and_eq_false_iff, beq_eq_false_iff_ne, ne_eq]
        by_cases h1 : a = 58
        · exact .inr fun e => h ⟨h1, e.symm⟩
        · exact .inl fun e => h1 e.symm
      rw [hp, if_neg h]
      unfold ix2
      cases idx2 (b :: r) with
      | none => rfl
      | some i =>
        have : ((i : Int) == -1) = false := by rw [beq_eq_false_iff_ne]; omega
        simp [this]
theorem hash_ok (H : Heap) : C T 95 [.str cb] H = some (.tup [.int .u32 973101934, .int .u32 637696617], H) := anyH fd95 rfl rfl (C_of 60 (by kernel_rfl)) H
theorem w32 (x : Int) : IntKind.u32.wrap x = x % 4294967296 := by
  have h : IntKind.u32.wrap x = x % 4294967296 := rfl
  rw [h]
def h2 (a b : UInt8) : Int := ((a.toNat : Int) * 16777619 + (b.toNat : Int)) % 4294967296
theorem h2_eq (a b : UInt8) : a = 58 ∧ b = 32 → h2 a b = 973101934 := by rintro ⟨rfl, rfl⟩; unfold h2; decide
theorem idx2_next {s : List UInt8} {i : Nat} (h : i + 1 < s.length) : ix2 (s.drop i) = if s[i] = 58 ∧ s[i + 1] = 32 then 0 else if ix2 (s.drop (i + 1)) < 0 then -1 else ix2 (s.drop (i + 1)) + 1 := by
  have e1 : s.drop i = s[i] :: s[i + 1] :: s.drop (i + 2) := by rw [List.drop_eq_getElem_cons (by omega), List.drop_eq_getElem_cons (by omega)]
  have e2 : s.drop (i + 1) = s[i + 1] :: s.drop (i + 2) := List.drop_eq_getElem_cons h
  rw [e1, e2]
  by_cases hc : s[i] = 58 ∧ s[i + 1] = 32
  · unfold ix2; simp [idx2, hc]
  · unfold ix2
    conv => lhs; unfold idx2
    rw [if_neg hc, if_neg hc]
    cases idx2 (s[i + 1] :: s.drop (i + 2)) with
    | none => rfl
    | some k =>
      have : ¬ ((k : Int) < 0) := by omega
      simp [this]
theorem ix2_short {s : List UInt8} (h : s.length ≤ 1) : ix2 s = -1 := by
  match s, h with
  | [], _ => rfl
  | [_], _ => rfl
def rkP (s : List UInt8) (i : Nat) (x : XR) : Prop := ∃ e', x = some (if ix2 (s.drop (i - 1)) < 0 then .exit 2 else .ret, e', []) ∧ (0 ≤ ix2 (s.drop (i - 1)) → e'.get 4 = .int .i64 ((i : Int) - 1 + ix2 (s.drop (i - 1))))
theorem roll2 (a b c : UInt8) : (h2 a b * 16777619 + (c.toNat : Int) - 637696617 * ((a.toNat : Int) % 4294967296)) % 4294967296 = h2 b c := by
  have h : (16777619 : Int) * 16777619 = 637696617 + 65539 * 4294967296 := by decide
  have la : ((a.toNat : Int)) % 4294967296 = a.toNat := Int.emod_eq_of_lt (by omega) (by have := a.toNat_lt; omega)
  rw [la]
  unfold h2
  generalize (a.toNat : Int) = x
  generalize (b.toNat : Int) = y
  generalize (c.toNat : Int) = z
  have e1 : (x * 16777619 + y) % 4294967296 = (x * 16777619 + y) - 4294967296 * ((x * 16777619 + y) / 4294967296) := by rw [Int.emod_def]
  generalize (x * 16777619 + y) / 4294967296 = q at e1
  rw [e1]
  have e2 : (x * 16777619 + y - 4294967296 * q) * 16777619 + z - 637696617 * x = (y * 16777619 + z) + 4294967296 * (65539 * x - 16777619 * q) := by
    have : x * 16777619 * 16777619 = x * 637696617 + x * 65539 * 4294967296 := by rw [Int.mul_assoc, h, Int.mul_add, ← Int.mul_assoc]
    rw [Int.sub_mul, Int.add_mul, this]
    omega
  rw [e2, Int.add_mul_emod_self_left]
theorem ix2_ge (s : List UInt8) : -1 ≤ ix2 s := by
  unfold ix2
  cases idx2 s with
  | none => exact Int.le_refl _
  | some k => show -1 ≤ (k : Int); omega
theorem rk_fin {s : List UInt8} {i : Nat} {X : XR} (h : ∃ e' : Env, X = some (if ix2 (s.drop i) < 0 then .exit 2 else .ret, e', []) ∧ (0 ≤ ix2 (s.drop i) → e'.get 4 = .int .i64 ((i : Int) + 1 - 1 + ix2 (s.drop i)))) :
    ∃ e' : Env, X = some (if (if ix2 (s.drop i) < 0 then -1 else ix2 (s.drop i) + 1) < 0 then .exit 2 else .ret, e', []) ∧ ((0 ≤ if ix2 (s.drop i) < 0 then -1 else ix2 (s.drop i) + 1) → e'.get 4 = .int .i64 ((i : Int) - 1 + if ix2 (s.drop i) < 0 then -1 else ix2 (s.drop i) + 1)) := by
  have hge := ix2_ge (s.drop i)
  generalize ix2 (s.drop i) = z at *
  obtain ⟨e', x1, x2⟩ := h
  refine ⟨e', ?_, ?_⟩
  · rw [x1]
    by_cases hz : z < 0
    · simp [hz]
    · have : ¬ z + 1 < 0 := by omega
      simp [hz, this]
  · by_cases hz : z < 0
    · simp [hz]
    · simp only [hz, if_false]
      intro _
      rw [x2 (by omega)]
      congr 1
      omega
def rkC (p : Int) : ACode := (.seq (.seq (.region [⟨(some 41), (.mv (.t 10)), none⟩, ⟨(some 42), (.mv (.t 0)), none⟩, ⟨(some 43), (.lenS (.t 42)), none⟩, ⟨(some 44), (.bin .lss .bool false (.t 41) (.t 43)), none⟩]) (.cond (.t 44) .skip (.exit 2))) (.block 3 [0, 1, 5, 6, 7, 8, 10] (.seq (.region [⟨(some 45), (.mv (.t 8)), none⟩, ⟨(some 46), (.bin .mul .bool false (.t 45) (.k (.int .u32 p))), none⟩, ⟨(some 8), (.mv (.t 46)), none⟩]) (.seq (.region [⟨(some 47), (.mv (.t 8)), none⟩, ⟨(some 48), (.mv (.t 0)), none⟩, ⟨(some 49), (.mv (.t 10)), none⟩, ⟨(some 50), (.idxS (.t 48) (.t 49)), none⟩, ⟨(some 51), (.conv (.int .u32) (.t 50)), none⟩, ⟨(some 52), (.bin .add .bool false (.t 47) (.t 51)), none⟩, ⟨(some 8), (.mv (.t 52)), none⟩]) (.seq (.region [⟨(some 53), (.mv (.t 8)), none⟩, ⟨(some 54), (.mv (.t 6)), none⟩, ⟨(some 55), (.mv (.t 0)), none⟩, ⟨(some 56), (.mv (.t 10)), none⟩, ⟨(some 57), (.mv (.t 7)), none⟩, ⟨(some 58), (.bin .sub .bool false (.t 56) (.t 57)), none⟩, ⟨(some 59), (.idxS (.t 55) (.t 58)), none⟩, ⟨(some 60), (.conv (.int .u32) (.t 59)), none⟩, ⟨(some 61), (.bin .mul .bool false (.t 54) (.t 60)), none⟩, ⟨(some 62), (.bin .sub .bool false (.t 53) (.t 61)), none⟩, ⟨(some 8), (.mv (.t 62)), none⟩]) (.seq (.region [⟨(some 63), (.mv (.t 10)), none⟩, ⟨(some 64), (.bin .add .bool false (.t 63) (.k (.int .i64 1))), none⟩, ⟨(some 10), (.mv (.t 64)), none⟩]) (.seq (.region [⟨(some 65), (.mv (.t 8)), none⟩, ⟨(some 66), (.mv (.t 5)), none⟩, ⟨(some 67), (.bin .eql .int false (.t 65) (.t 66)), none⟩, ⟨(some 68), (.mv (.t 67)), none⟩, ⟨(some 69), (.mv (.t 0)), (some ((some 68), true))⟩, ⟨(some 70), (.mv (.t 10)), (some ((some 68), true))⟩, ⟨(some 71), (.mv (.t 7)), (some ((some 68), true))⟩, ⟨(some 72), (.bin .sub .bool false (.t 70) (.t 71)), (some ((some 68), true))⟩, ⟨(some 73), (.mv (.t 10)), (some ((some 68), true))⟩, ⟨(some 74), (.slice .str (.t 69) (some (.t 72)) (some (.t 73)) none), (some ((some 68), true))⟩, ⟨(some 75), (.mv (.t 1)), (some ((some 68), true))⟩, ⟨(some 76), (.bin .eql .str false (.t 74) (.t 75)), (some ((some 68), true))⟩, ⟨(some 77), (.pick (.t 68) (.t 76) (.k (.bool false))), none⟩]) (.cond (.t 77) (.seq (.region [⟨(some 78), (.mv (.t 10)), none⟩, ⟨(some 79), (.mv (.t 7)), none⟩, ⟨(some 80), (.bin .sub .bool false (.t 78) (.t 79)), none⟩, ⟨(some 4), (.mv (.t 80)), none⟩]) .ret) .skip))))))))
theorem eRk : L92_0 = rkC 16777619 := by kernel_rfl
theorem rk_loop (p q hs0 : Int) (h2 : UInt8 → UInt8 → Int) (h2_eq : ∀ a b : UInt8, a = 58 ∧ b = 32 → h2 a b = hs0)
    (roll2 : ∀ a b c : UInt8, (h2 a b * p + (c.toNat : Int) - q * ((a.toNat : Int) % 4294967296)) % 4294967296 = h2 b c) (s : List UInt8) (hs : s.length < 100000000) : ∀ (n i : Nat) (h2i : 2 ≤ i), (hi : i + n = s.length) →
    rkP s i (XL T [0, 1, 5, 6, 7, 8, 10] (rkC p) [(0, .str s), (1, .str cb), (5, .int .u32 hs0), (6, .int .u32 q), (7, .int .i64 2), (8, .int .u32 (h2 (s[i - 2]'(by omega)) (s[i - 1]'(by omega)))), (10, .int .i64 i)] [])
  | 0, i, h2i, hi => by
    have hsh : ix2 (s.drop (i - 1)) = -1 := ix2_short (by rw [List.length_drop]; omega)
    have hlt : ¬ (i : Int) < (s.length : Int) := by omega
    unfold rkP
    rw [hsh, XL_eq]
    simp [rkC, hlt]
  | n + 1, i, h2i, hi => by
    have hlt : i < s.length := by omega
    have hltI : (i : Int) < (s.length : Int) := by omega
    have ih := rk_loop p q hs0 h2 h2_eq roll2 s hs n (i + 1) (by omega) (by omega)
    have e1 : i + 1 - 2 = i - 1 := by omega
    have e2 : i + 1 - 1 = i := by omega
    simp only [e1, e2] at ih
    have hnx := idx2_next (s := s) (i := i - 1) (by omega)
    have e3 : i - 1 + 1 = i := by omega
    simp only [e3] at hnx
    unfold rkP at ih ⊢
    simp only [e2] at ih
    push_cast at ih
    rw [hnx, XL_eq]
    generalize XL T [0, 1, 5, 6, 7, 8, 10] (rkC p) = lp at *
    have la := (s[i - 2]'(by omega)).toNat_lt
    have lb := (s[i - 1]'(by omega)).toNat_lt
    have lc := (s[i]'hlt).toNat_lt
    have e4 : (i : Int) - 2 = ((i - 2 : Nat) : Int) := by omega
    have hlt2 : i - 2 < s.length := by omega
    have hsl : (s.take (i + 1)).drop (i - 1) = [s[i - 1]'(by omega), s[i]'hlt] := by
      rw [List.drop_take, List.drop_eq_getElem_cons (by omega), show i + 1 - (i - 1) = 1 + 1 by omega, List.take_succ_cons]
      simp only [e3, List.drop_eq_getElem_cons hlt]
      rfl
    have e5 : (i : Int) + 1 - 2 = ((i - 1 : Nat) : Int) := by omega
    have hw : IntKind.i64.wrap ((i : Int) + 1) = (i : Int) + 1 := wr64 (by omega) (by omega)
    have hh := h2_eq (s[i - 1]'(by omega)) (s[i]'hlt)
    have hroll2 : (h2 (s[i - 2]'(by omega)) (s[i - 1]'(by omega)) * p + ((s[i]'hlt).toNat : Int) - q * (((s[i - 2]'(by omega)).toNat : Int) % 4294967296)) % 4294967296 = h2 (s[i - 1]'(by omega)) (s[i]'hlt) := roll2 _ _ _
    generalize h2 (s[i - 2]'(by omega)) (s[i - 1]'(by omega)) = h0 at *
    generalize hd : h2 (s[i - 1]'(by omega)) (s[i]'hlt) = h1 at *
    by_cases hq : h1 = hs0
    · have hqb : (h1 == hs0) = true := by simpa using hq
      by_cases hm : s[i - 1]'(by omega) = 58 ∧ s[i]'hlt = 32
      · rw [if_pos hm]
        have hbe : ([s[i - 1]'(by omega), s[i]'hlt] == cb) = true := by simp [hm]
        simp (disch := omega) [rkC, w32, hltI, e4, hroll2, hq, hsl, hbe, e5, hw]
        omega
      · rw [if_neg hm]
        have hbe : ([s[i - 1]'(by omega), s[i]'hlt] == cb) = false := by simpa using hm
        simp (disch := omega) [rkC, w32, hltI, e4, hroll2, hq, hsl, hbe, e5, hw]
        rw [hq] at ih
        exact rk_fin ih
    · have hqb : (h1 == hs0) = false := by simpa using hq
      have hm : ¬ (s[i - 1]'(by omega) = 58 ∧ s[i]'hlt = 32) := fun h => hq (hh h)
      rw [if_neg hm]
      simp (disch := omega) [rkC, w32, hltI, e4, hroll2, hqb, hw]
      exact rk_fin ih
end Go.Eng.S
namespace Go.Eng.S
open Go Go.Eng
set_option linter.unusedSectionVars false
variable [Sit]
set_option maxRecDepth 20000
def rkD (p : Int) : ACode := (.seq (.seq (.region [⟨(some 18), (.mv (.t 9)), none⟩, ⟨(some 19), (.mv (.t 7)), none⟩, ⟨(some 20), (.bin .lss .bool false (.t 18) (.t 19)), none⟩]) (.cond (.t 20) .skip (.exit 0))) (.seq (.block 1 [0, 1, 5, 6, 7, 8, 9] (.region [⟨(some 23), (.mv (.t 8)), none⟩, ⟨(some 24), (.bin .mul .bool false (.t 23) (.k (.int .u32 p))), none⟩, ⟨(some 25), (.mv (.t 0)), none⟩, ⟨(some 26), (.mv (.t 9)), none⟩, ⟨(some 27), (.idxS (.t 25) (.t 26)), none⟩, ⟨(some 28), (.conv (.int .u32) (.t 27)), none⟩, ⟨(some 29), (.bin .add .bool false (.t 24) (.t 28)), none⟩, ⟨(some 8), (.mv (.t 29)), none⟩])) (.region [⟨(some 21), (.mv (.t 9)), none⟩, ⟨(some 22), (.bin .add .bool false (.t 21) (.k (.int .i64 1))), none⟩, ⟨(some 9), (.mv (.t 22)), none⟩])))
theorem eRk1 : L92_1 = rkD 16777619 := by kernel_rfl
def ixHd : ACode := (.seq (.region [⟨(some 57), (.mv (.t 8)), none⟩, ⟨(some 58), (.mv (.t 9)), none⟩, ⟨(some 59), (.bin .lss .bool false (.t 57) (.t 58)), none⟩]) (.cond (.t 59) .skip (.exit 1)))
def ixA : ACode := (.seq (.region [⟨(some 60), (.mv (.t 0)), none⟩, ⟨(some 61), (.mv (.t 8)), none⟩, ⟨(some 62), (.idxS (.t 60) (.t 61)), none⟩, ⟨(some 63), (.mv (.t 6)), none⟩, ⟨(some 64), (.bin .neq .int false (.t 62) (.t 63)), none⟩]) (.cond (.t 64) (.seq (.region [⟨(some 65), (.mv (.t 0)), none⟩, ⟨(some 66), (.mv (.t 8)), none⟩, ⟨(some 67), (.bin .add .bool false (.t 66) (.k (.int .i64 1))), none⟩, ⟨(some 68), (.mv (.t 9)), none⟩, ⟨(some 69), (.slice .str (.t 65) (some (.t 67)) (some (.t 68)) none), none⟩, ⟨(some 70), (.mv (.t 6)), none⟩, ⟨(some 71), (.call (.fn 89) [(.t 69), (.t 70)]), none⟩, ⟨(some 11), (.mv (.t 71)), none⟩]) (.seq (.seq (.region [⟨(some 72), (.mv (.t 11)), none⟩, ⟨(some 73), (.bin .lss .bool false (.t 72) (.k (.int .i64 0))), none⟩]) (.cond (.t 73) (.seq (.region [⟨(some 4), (.mv (.k (.int .i64 (-1)))), none⟩]) .ret) .skip)) (.region [⟨(some 74), (.mv (.t 8)), none⟩, ⟨(some 75), (.mv (.t 11)), none⟩, ⟨(some 76), (.bin .add .bool false (.t 75) (.k (.int .i64 1))), none⟩, ⟨(some 77), (.bin .add .bool false (.t 74) (.t 76)), none⟩, ⟨(some 8), (.mv (.t 77)), none⟩]))) .skip))
def ixT : ACode := (.seq (.seq (.region [⟨(some 78), (.mv (.t 0)), none⟩, ⟨(some 79), (.mv (.t 8)), none⟩, ⟨(some 80), (.bin .add .bool false (.t 79) (.k (.int .i64 1))), none⟩, ⟨(some 81), (.idxS (.t 78) (.t 80)), none⟩, ⟨(some 82), (.mv (.t 7)), none⟩, ⟨(some 83), (.bin .eql .int false (.t 81) (.t 82)), none⟩, ⟨(some 84), (.mv (.t 83)), none⟩, ⟨(some 85), (.mv (.t 0)), (some ((some 84), true))⟩, ⟨(some 86), (.mv (.t 8)), (some ((some 84), true))⟩, ⟨(some 87), (.mv (.t 8)), (some ((some 84), true))⟩, ⟨(some 88), (.mv (.t 5)), (some ((some 84), true))⟩, ⟨(some 89), (.bin .add .bool false (.t 87) (.t 88)), (some ((some 84), true))⟩, ⟨(some 90), (.slice .str (.t 85) (some (.t 86)) (some (.t 89)) none), (some ((some 84), true))⟩, ⟨(some 91), (.mv (.t 1)), (some ((some 84), true))⟩, ⟨(some 92), (.bin .eql .str false (.t 90) (.t 91)), (some ((some 84), true))⟩, ⟨(some 93), (.pick (.t 84) (.t 92) (.k (.bool false))), none⟩]) (.cond (.t 93) (.seq (.region [⟨(some 94), (.mv (.t 8)), none⟩, ⟨(some 4), (.mv (.t 94)), none⟩]) .ret) .skip)) (.seq (.region [⟨(some 95), (.mv (.t 8)), none⟩, ⟨(some 96), (.bin .add .bool false (.t 95) (.k (.int .i64 1))), none⟩, ⟨(some 8), (.mv (.t 96)), none⟩]) (.seq (.region [⟨(some 97), (.mv (.t 10)), none⟩, ⟨(some 98), (.bin .add .bool false (.t 97) (.k (.int .i64 1))), none⟩, ⟨(some 10), (.mv (.t 98)), none⟩]) (.seq (.region [⟨(some 99), (.mv (.t 5)), none⟩, ⟨(some 100), (.load none (.g 0)), none⟩, ⟨(some 101), (.bin .leq .bool false (.t 99) (.t 100)), none⟩, ⟨(some 102), (.mv (.t 101)), none⟩, ⟨(some 103), (.mv (.t 10)), (some ((some 102), true))⟩, ⟨(some 104), (.mv (.t 8)), (some ((some 102), true))⟩, ⟨(some 105), (.call (.fn 91) [(.t 104)]), (some ((some 102), true))⟩, ⟨(some 106), (.bin .gtr .bool false (.t 103) (.t 105)), (some ((some 102), true))⟩, ⟨(some 107), (.pick (.t 102) (.t 106) (.k (.bool false))), none⟩]) (.cond (.t 107) (.seq (.region [⟨(some 108), (.mv (.t 0)), none⟩, ⟨(some 109), (.mv (.t 8)), none⟩, ⟨(some 110), (.slice .str (.t 108) (some (.t 109)) none none), none⟩, ⟨(some 111), (.mv (.t 1)), none⟩, ⟨(some 112), (.call (.fn 90) [(.t 110), (.t 111)]), none⟩, ⟨(some 12), (.mv (.t 112)), none⟩]) (.seq (.seq (.region [⟨(some 113), (.mv (.t 12)), none⟩, ⟨(some 114), (.bin .geq .bool false (.t 113) (.k (.int .i64 0))), none⟩]) (.cond (.t 114) (.seq (.region [⟨(some 115), (.mv (.t 12)), none⟩, ⟨(some 116), (.mv (.t 8)), none⟩, ⟨(some 117), (.bin .add .bool false (.t 115) (.t 116)), none⟩, ⟨(some 4), (.mv (.t 117)), none⟩]) .ret) .skip)) (.seq (.region [⟨(some 4), (.mv (.k (.int .i64 (-1)))), none⟩]) .ret))) (.seq (.region [⟨(some 118), (.mv (.t 5)), none⟩, ⟨(some 119), (.load none (.g 0)), none⟩, ⟨(some 120), (.bin .gtr .bool false (.t 118) (.t 119)), none⟩, ⟨(some 121), (.mv (.t 120)), none⟩, ⟨(some 122), (.mv (.t 10)), (some ((some 121), true))⟩, ⟨(some 123), (.mv (.t 8)), (some ((some 121), true))⟩, ⟨(some 124), (.bin .shr .bool false (.t 123) (.k (.int .u64 4))), (some ((some 121), true))⟩, ⟨(some 125), (.bin .add .bool false (.k (.int .i64 4)) (.t 124)), (some ((some 121), true))⟩, ⟨(some 126), (.bin .geq .bool false (.t 122) (.t 125)), (some ((some 121), true))⟩, ⟨(some 127), (.pick (.t 121) (.t 126) (.k (.bool false))), none⟩, ⟨(some 128), (.mv (.t 127)), none⟩, ⟨(some 129), (.mv (.t 8)), (some ((some 128), true))⟩, ⟨(some 130), (.mv (.t 9)), (some ((some 128), true))⟩, ⟨(some 131), (.bin .lss .bool false (.t 129) (.t 130)), (some ((some 128), true))⟩, ⟨(some 132), (.pick (.t 128) (.t 131) (.k (.bool false))), none⟩]) (.cond (.t 132) (.seq (.region [⟨(some 133), (.mv (.t 0)), none⟩, ⟨(some 134), (.mv (.t 8)), none⟩, ⟨(some 135), (.slice .str (.t 133) (some (.t 134)) none none), none⟩, ⟨(some 136), (.mv (.t 1)), none⟩, ⟨(some 137), (.call (.fn 92) [(.t 135), (.t 136)]), none⟩, ⟨(some 13), (.mv (.t 137)), none⟩]) (.seq (.seq (.region [⟨(some 138), (.mv (.t 13)), none⟩, ⟨(some 139), (.bin .lss .bool false (.t 138) (.k (.int .i64 0))), none⟩]) (.cond (.t 139) (.seq (.region [⟨(some 4), (.mv (.k (.int .i64 (-1)))), none⟩]) .ret) .skip)) (.seq (.region [⟨(some 140), (.mv (.t 8)), none⟩, ⟨(some 141), (.mv (.t 13)), none⟩, ⟨(some 142), (.bin .add .bool false (.t 140) (.t 141)), none⟩, ⟨(some 4), (.mv (.t 142)), none⟩]) .ret))) .skip)))))))
theorem eIx : L86_0 = .seq ixHd (.block 2 [0, 1, 5, 6, 7, 8, 9, 10] (.seq ixA ixT)) := by kernel_rfl
theorem rk_first (p : Int) (h2 : UInt8 → UInt8 → Int) (hh : ∀ a b : UInt8, ((a.toNat : Int) * p + (b.toNat : Int)) % 4294967296 = h2 a b) (a b : UInt8) (r : List UInt8) (hr : r.length < 100000000) (h q : Int) :
    ∃ e', XL T [0, 1, 5, 6, 7, 8, 9] (rkD p) [(0, .str (a :: b :: r)), (1, .str cb), (5, .int .u32 h), (6, .int .u32 q), (7, .int .i64 2), (8, .int .u32 0), (9, .int .i64 0)] [] = some (.exit 0, e', []) ∧ e'.get 0 = .str (a :: b :: r) ∧ e'.get 1 = .str cb ∧ e'.get 5 = .int .u32 h ∧ e'.get 6 = .int .u32 q ∧ e'.get 7 = .int .i64 2 ∧ e'.get 8 = .int .u32 (h2 a b) := by
  have la := a.toNat_lt
  have lb := b.toNat_lt
  have ea : (a.toNat : Int) % 4294967296 = a.toNat := by omega
  have hab := hh a b
  rw [XL_eq]
  simp (disch := omega) [rkD, w32, ea]
  rw [XL_eq]
  simp (disch := omega) [w32, hab]
  rw [XL_eq]
  simp (disch := omega)
theorem rk_gen (p q hs0 : Int) (h2 : UInt8 → UInt8 → Int) (hh : ∀ a b : UInt8, ((a.toNat : Int) * p + (b.toNat : Int)) % 4294967296 = h2 a b) (h2_eq : ∀ a b : UInt8, a = 58 ∧ b = 32 → h2 a b = hs0)
    (roll2 : ∀ a b c : UInt8, (h2 a b * p + (c.toNat : Int) - q * ((a.toNat : Int) % 4294967296)) % 4294967296 = h2 b c) (e0 : L92_0 = rkC p) (e1 : L92_1 = rkD p)
    (hha : C T 95 [.str cb] [] = some (.tup [.int .u32 hs0, .int .u32 q], [])) (a b : UInt8) (r : List UInt8) (hs : (a :: b :: r).length < 100000000) : C T 92 [.str (a :: b :: r), .str cb] [] = some (.int .i64 (ix2 (a :: b :: r)), []) := by
  rw [q92]
  obtain ⟨e', x1, g0, g1, g5, g6, g7, g8⟩ := rk_first p h2 hh a b r (by simp at hs; omega) hs0 q
  rw [← e1] at x1
  obtain ⟨e2, y1, y2⟩ := rk_loop p q hs0 h2 h2_eq roll2 (a :: b :: r) hs r.length 2 (by omega) (by simp; omega)
  rw [← e0] at y1
  have hnx := idx2_next (s := a :: b :: r) (i := 0) (by simp)
  have hge := ix2_ge (b :: r)
  have hhq := h2_eq a b
  simp only [List.drop_zero, Nat.zero_add, List.getElem_cons_zero, List.getElem_cons_succ, List.drop_succ_cons, Nat.sub_self, show (2 : Nat) - 1 = 1 from rfl] at y1 y2 hnx
  simp only [Int.cast_ofNat_Int] at y1 y2
  rw [hnx]
  generalize h2 a b = h0 at *
  generalize ix2 (b :: r) = z at *
  clear e0 e1 hh roll2 h2_eq
  by_cases hm : a = 58 ∧ b = 32
  · have hq := hhq hm
    obtain ⟨rfl, rfl⟩ := hm
    subst hq
    simp (disch := omega) [d92, x1, g0, g1, g5, g6, g7, g8, hha]
  · rw [if_neg hm]
    have hbe : ([a, b] == cb) = false := by simpa using hm
    have hbe' : a = 58 → ¬ b = 32 := fun h1 h2 => hm ⟨h1, h2⟩
    by_cases hz : z < 0
    · rw [if_pos hz] at y1
      rw [if_pos hz]
      by_cases hq : h0 = hs0
      · subst hq
        simp (disch := omega) [d92, x1, g0, g1, g5, g6, g7, g8, hha, hbe, y1]
      · simp (disch := omega) [d92, x1, g0, g1, g5, g6, g7, g8, hha, y1]
    · rw [if_neg hz] at y1
      rw [if_neg hz]
      have y3 := y2 (by omega)
      have y4 : e2.get 4 = .int .i64 (z + 1) := by rw [y3]; congr 1; omega
      by_cases hq : h0 = hs0
      · subst hq
        simp (disch := omega) [d92, x1, g0, g1, g5, g6, g7, g8, hha, hbe, y1, y4]
      · simp (disch := omega) [d92, x1, g0, g1, g5, g6, g7, g8, hha, y1, y4]
theorem rk_ok (s : List UInt8) (h2s : 2 ≤ s.length) (hs : s.length < 100000000) (H : Heap) : C T 92 [.str s, .str cb] H = some (.int .i64 (ix2 s), H) := by
  match s, h2s, hs with
  | a :: b :: r, h2s, hs =>
  refine anyH fd92 rfl rfl ?_ H
  exact rk_gen 16777619 637696617 973101934 h2 (fun _ _ => by unfold h2; rfl) h2_eq roll2 eRk eRk1 (hash_ok []) a b r hs
theorem ix2_le : ∀ s : List UInt8, ix2 s ≤ s.length
  | [] => by decide
  | [a] => by show (-1 : Int) ≤ _; simp
  | a :: b :: r => by
    have ih := ix2_le (b :: r)
    have hn := idx2_next (s := a :: b :: r) (i := 0) (by simp)
    simp only [List.drop_zero, Nat.zero_add, List.drop_one, List.tail_cons] at hn
    rw [hn]
    simp only [List.length_cons] at ih ⊢
    repeat' split
    all_goals omega
/-- The first place from an index on, or -1. -/
def ixAt (s : List UInt8) (i : Nat) : Int := if ix2 (s.drop i) < 0 then -1 else i + ix2 (s.drop i)
theorem ixAt_zero (s : List UInt8) : ixAt s 0 = ix2 s := by
  have := ix2_ge s
  unfold ixAt
  rw [List.drop_zero]
  split <;> omega
theorem ixAt_end {s : List UInt8} {i : Nat} (h : s.length ≤ i + 1) : ixAt s i = -1 := by
  unfold ixAt
  rw [ix2_short (by rw [List.length_drop]; omega)]
  rfl
theorem ixAt_step {s : List UInt8} {i : Nat} (h : i + 1 < s.length) : ixAt s i = if s[i] = 58 ∧ s[i + 1] = 32 then (i : Int) else ixAt s (i + 1) := by
  have hn := idx2_next h
  have hge := ix2_ge (s.drop (i + 1))
  unfold ixAt
  rw [hn]
  split
  · simp
  · generalize ix2 (s.drop (i + 1)) = z at *
    by_cases hz : z < 0
    · simp [hz]
    · have : ¬ z + 1 < 0 := by omega
      simp only [hz, this, if_false]
      push_cast
      omega
theorem ixAt_ne {s : List UInt8} {i : Nat} (h : ∀ hi : i < s.length, s[i] ≠ 58) : ixAt s i = ixAt s (i + 1) := by
  by_cases h1 : i + 1 < s.length
  · rw [ixAt_step h1, if_neg (fun hc => h (by omega) hc.1)]
  · rw [ixAt_end (by omega), ixAt_end (by omega)]
theorem ixAt_skip (s : List UInt8) : ∀ n i, (∀ j, i ≤ j → j < i + n → ∀ hj : j < s.length, s[j] ≠ 58) → ixAt s i = ixAt s (i + n)
  | 0, _, _ => rfl
  | n + 1, i, h => by
    rw [ixAt_ne (fun hi => h i (Nat.le_refl _) (by omega) hi), ixAt_skip s n (i + 1) (fun j h1 h2 hj => h j (by omega) (by omega) hj)]
    congr 1
    omega
theorem cutI_ne (c : UInt8) : ∀ (l : List UInt8) (j : Nat) (hj : j < l.length), j < cutI c l → l[j] ≠ c
  | [], _, hj, _ => by simp at hj
  | a :: l, 0, _, h => by
    rw [cutI_cons] at h
    split at h
    · omega
    · simpa using ‹¬ a = c›
  | a :: l, j + 1, hj, h => by
    rw [cutI_cons] at h
    split at h
    · omega
    · simpa using cutI_ne c l j (by simpa using hj) (by omega)
theorem cutI_at (c : UInt8) : ∀ (l : List UInt8) (hj : cutI c l < l.length), l[cutI c l] = c
  | [], hj => by simp at hj
  | a :: l, hj => by
    by_cases h : a = c
    · simp [cutI_cons, h]
    · have h1 : cutI c (a :: l) = cutI c l + 1 := by rw [cutI_cons, if_neg h]
      simp only [h1]
      rw [h1] at hj
      simpa using cutI_at c l (by simpa using hj)
def ixP (s : List UInt8) (i : Nat) (x : XR) : Prop := ∃ e', (x = some (.ret, e', []) ∧ e'.get 4 = .int .i64 (ixAt s i)) ∨ (x = some (.exit 1, e', []) ∧ ixAt s i = -1)
theorem pf90 : T.fn 90 = some (.prim (pIdxS Sit.maxLen)) := by kernel_rfl
theorem pq90 : isPure T 90 = false := by kernel_rfl
theorem ixs_ok (s : List UInt8) (hs : s.length < 100000000) (hm : 2 ≤ Sit.maxLen) (H : Heap) : C T 90 [.str s, .str cb] H = some (.int .i64 (ix2 s), H) := by
  rw [C_prim pf90, ← idx2_lib]
  have h1 : (2 : Int) ≤ Sit.maxLen := hm
  have h2 : s.length < 4294967281 := by omega
  simp [pIdxS, h1, h2]
theorem gl0 : T.glob 0 = some [.int .i64 Sit.maxLen] := rfl
theorem cutover_ok (n : Nat) (hn : n < 1000000000) (H : Heap) : C T 91 [.int .i64 n] H = some (.int .i64 (((n : Int) + 16).tdiv 8), H) := by
  refine anyH fd91 rfl rfl ?_ H
  rw [q91]
  have h1 : ((n : Int) + 16).tdiv 8 = (n + 16) / 8 := Int.tdiv_eq_ediv_of_nonneg (by omega)
  have hw : IntKind.i64.wrap (((n : Int) + 16).tdiv 8) = ((n : Int) + 16).tdiv 8 := by rw [h1]; exact wr64 (by omega) (by omega)
  simp (disch := omega) [d91, hw]
set_option maxHeartbeats 2000000 in
theorem ix_tail (s : List UInt8) (hs : s.length < 100000000) (i f : Nat) (hi : i + 1 < s.length) (hf : f ≤ i) (lp : Env → Heap → XR)
    (hlp : ixP s (i + 1) (lp [(0, .str s), (1, .str cb), (5, .int .i64 2), (6, .int .u8 58), (7, .int .u8 32), (8, .int .i64 ((i : Int) + 1)), (9, .int .i64 ((s.length : Int) - 1)), (10, .int .i64 ((f : Int) + 1))] []))
    (e : Env) (g0 : e.get 0 = .str s) (g1 : e.get 1 = .str cb) (g5 : e.get 5 = .int .i64 2) (g6 : e.get 6 = .int .u8 58) (g7 : e.get 7 = .int .u8 32) (g8 : e.get 8 = .int .i64 i) (g9 : e.get 9 = .int .i64 ((s.length : Int) - 1)) (g10 : e.get 10 = .int .i64 f) (hc : s[i] = 58) :
    ixP s i (seqK (blkK 2 [0, 1, 5, 6, 7, 8, 9, 10] (X T ixT e [])) fun e' H' => lp (Env.keep [0, 1, 5, 6, 7, 8, 9, 10] e') H') := by
  have hst := ixAt_step hi
  have hsl : (s.take (i + 2)).drop i = [s[i], s[i + 1]] := by
    rw [List.drop_take, List.drop_eq_getElem_cons (by omega), show i + 2 - i = 1 + 1 by omega, List.take_succ_cons, List.drop_eq_getElem_cons hi]
    rfl
  have hgi : s[i + 1]? = some s[i + 1] := List.getElem?_eq_getElem hi
  have hg1 : (i : Int) + 1 < s.length := by omega
  have e32 := u8_eqlit s[i + 1] 32 32 rfl
  by_cases h2 : s[i + 1] = 32
  · rw [if_pos ⟨hc, h2⟩] at hst
    rw [hc, h2] at hsl
    rw [h2] at hgi
    have hb : (([58, 32] : List UInt8) == cb) = true := rfl
    unfold ixP
    rw [hst]
    simp (disch := omega) [ixT, g0, g1, g5, g7, g8, hsl, h2]
  · rw [if_neg (fun h => h2 h.2)] at hst
    have hne : ((s[i + 1].toNat : Int) == 32) = false := by rw [e32]; simpa using h2
    have hne' : ¬ (s[i + 1].toNat : Int) = 32 := by simpa using hne
    have hco := cutover_ok (i + 1) (by omega) []
    push_cast at hco
    have hrest : (s.drop (i + 1)).length = s.length - (i + 1) := List.length_drop
    have hz := ix2_ge (s.drop (i + 1))
    have hz2 := ix2_le (s.drop (i + 1))
    rw [hrest] at hz2
    have hat : ixAt s (i + 1) = if ix2 (s.drop (i + 1)) < 0 then -1 else ((i : Int) + 1) + ix2 (s.drop (i + 1)) := by unfold ixAt; push_cast; rfl
    have hshr : ((i : Int) + 1).fdiv (2 ^ min 4 IntKind.i64.bits) = ((i : Int) + 1) / 16 := Int.fdiv_eq_ediv_of_nonneg _ (by decide)
    have hw4 : IntKind.i64.wrap (4 + ((i : Int) + 1) / 16) = 4 + ((i : Int) + 1) / 16 := wr64 (by omega) (by omega)
    generalize ((i : Int) + 1 + 16).tdiv 8 = cu at *
    unfold ixP at hlp ⊢
    rw [hst]
    by_cases hm : 2 ≤ Sit.maxLen
    · have hix := ixs_ok (s.drop (i + 1)) (by omega) hm []
      have hm' : ¬ Sit.maxLen < 2 := by omega
      by_cases hq : cu < (f : Int) + 1
      · rw [hat]
        generalize ix2 (s.drop (i + 1)) = z at *
        by_cases hzz : z < 0
        · have hzn : ¬ 0 ≤ z := by omega
          simp (disch := omega) [ixT, g0, g1, g5, g7, g8, g10, hne, gl0, hm, hco, hq, hix, hzz, hzn]
        · have hzn : 0 ≤ z := by omega
          simp (disch := omega) [ixT, g0, g1, g5, g7, g8, g10, hne, gl0, hm, hco, hq, hix, hzz, hzn]
          omega
      · simp (disch := omega) [ixT, g0, g1, g5, g6, g7, g8, g9, g10, hne, gl0, hm, hm', hco, hq]
        exact hlp
    · have hm' : Sit.maxLen < 2 := by omega
      by_cases hq : 4 + ((i : Int) + 1) / 16 ≤ (f : Int) + 1
      · by_cases hit : (i : Int) + 1 < (s.length : Int) - 1
        · have hrk := rk_ok (s.drop (i + 1)) (by omega) (by omega) []
          rw [hat]
          generalize ix2 (s.drop (i + 1)) = z at *
          by_cases hzz : z < 0
          · simp (disch := omega) [ixT, g0, g1, g5, g7, g8, g9, g10, hne, gl0, hm, hm', shiftOp, hshr, hw4, hq, hit, hrk, hzz]
          · simp (disch := omega) [ixT, g0, g1, g5, g7, g8, g9, g10, hne, gl0, hm, hm', shiftOp, hshr, hw4, hq, hit, hrk, hzz]
        · simp (disch := omega) [ixT, g0, g1, g5, g6, g7, g8, g9, g10, hne, gl0, hm, hm', shiftOp, hshr, hw4, hq, hit]
          exact hlp
      · simp (disch := omega) [ixT, g0, g1, g5, g6, g7, g8, g9, g10, hne, gl0, hm, hm', shiftOp, hshr, hw4, hq]
        exact hlp
theorem idx_w (s : List UInt8) (i : Nat) (hi : i < s.length) (hc : s[i] ≠ 58) : ∃ r : Int, C T 89 [.str ((s.take (s.length - 1)).drop (i + 1)), .int .u8 58] [] = some (.int .i64 r, []) ∧
    ((r = -1 ∧ ixAt s i = -1) ∨ ∃ (o : Nat), r = o ∧ ∃ hlo : i + (o + 1) + 1 < s.length, s[i + (o + 1)] = 58 ∧ ixAt s i = ixAt s (i + (o + 1))) := by
  refine ⟨_, idxS_ok ((s.take (s.length - 1)).drop (i + 1)) 58 [], ?_⟩
  have hwl : ((s.take (s.length - 1)).drop (i + 1)).length = s.length - 1 - (i + 1) := by simp
  have hwg : ∀ j (hj : j < ((s.take (s.length - 1)).drop (i + 1)).length) (hk : i + 1 + j < s.length), ((s.take (s.length - 1)).drop (i + 1))[j] = s[i + 1 + j] := by intro j hj hk; simp
  have hcn := cutI_ne 58 ((s.take (s.length - 1)).drop (i + 1))
  have hca := cutI_at 58 ((s.take (s.length - 1)).drop (i + 1))
  have hcl := cutI_lt (c := 58) (l := (s.take (s.length - 1)).drop (i + 1))
  generalize (s.take (s.length - 1)).drop (i + 1) = w at *
  by_cases hm : (58 : UInt8) ∈ w
  · have hlt2 := hcl.1 hm
    rw [if_pos hm]
    have hca := hca hlt2
    rw [hwg _ _ (by omega)] at hca
    refine .inr ⟨cutI 58 w, rfl, by omega, ?_, ?_⟩
    · simpa [show i + (cutI 58 w + 1) = i + 1 + cutI 58 w by omega] using hca
    · exact ixAt_skip s (cutI 58 w + 1) i (fun j h1 h2 hj => by
        by_cases hji : j = i
        · subst hji; exact hc
        · have := hcn (j - (i + 1)) (by omega) (by omega)
          rw [hwg _ _ (by omega)] at this
          simpa [show i + 1 + (j - (i + 1)) = j by omega] using this)
  · rw [if_neg hm]
    have hsk := ixAt_skip s (s.length - 1 - i) i (fun j h1 h2 hj => by
      by_cases hji : j = i
      · subst hji; exact hc
      · intro h58
        refine hm (List.mem_iff_getElem.2 ⟨j - (i + 1), by omega, ?_⟩)
        rw [hwg _ _ (by omega)]
        simpa [show i + 1 + (j - (i + 1)) = j by omega] using h58)
    rw [ixAt_end (i := i + (s.length - 1 - i)) (by omega)] at hsk
    exact .inl ⟨rfl, hsk⟩
set_option maxHeartbeats 2000000 in
theorem ix_loop (s : List UInt8) (hs : s.length < 100000000) (h2s : 2 ≤ s.length) : ∀ (n i f : Nat), s.length ≤ i + n → i ≤ s.length → f ≤ i →
    ixP s i (XL T [0, 1, 5, 6, 7, 8, 9, 10] L86_0 [(0, .str s), (1, .str cb), (5, .int .i64 2), (6, .int .u8 58), (7, .int .u8 32), (8, .int .i64 i), (9, .int .i64 ((s.length : Int) - 1)), (10, .int .i64 f)] [])
  | n, i, f, hn, hi, hf => by
    by_cases hlt : i + 1 < s.length
    · match n, hn with
      | 0, hn => omega
      | n + 1, hn =>
      have hI : (i : Int) < (s.length : Int) - 1 := by omega
      have hgi : s[i]? = some s[i] := List.getElem?_eq_getElem (by omega)
      have hq := u8_eqlit s[i] 58 58 rfl
      rw [XL_eq, eIx]
      have ih := fun i' f' h1 h2 h3 => ix_loop s hs h2s n i' f' h1 h2 h3
      rw [eIx] at ih
      by_cases hc : s[i] = 58
      · have ih := ih (i + 1) (f + 1) (by omega) (by omega) (by omega)
        push_cast at ih
        have hne : ((s[i].toNat : Int) != 58) = false := by rw [bne, hq]; simpa using hc
        have hne' : (s[i].toNat : Int) = 58 := by simpa using hne
        generalize hlp : XL T [0, 1, 5, 6, 7, 8, 9, 10] (.seq ixHd (.block 2 [0, 1, 5, 6, 7, 8, 9, 10] (.seq ixA ixT))) = lp at *
        have ht := fun e g0 g1 g5 g6 g7 g8 g9 g10 => ix_tail s hs i f hlt hf lp ih e g0 g1 g5 g6 g7 g8 g9 g10 hc
        simp (disch := omega) [ixHd, ixA, hI, hne']
        refine ht _ ?_ ?_ ?_ ?_ ?_ ?_ ?_ ?_ <;> rfl
      · have hne : ((s[i].toNat : Int) != 58) = true := by rw [bne, hq]; simpa using hc
        have hne' : ¬ (s[i].toNat : Int) = 58 := by simpa using hne
        obtain ⟨r, hw, hr⟩ := idx_w s i (by omega) hc
        rcases hr with ⟨rfl, hsk⟩ | ⟨o, rfl, hlo, hca, hsk⟩
        · unfold ixP
          rw [hsk]
          simp (disch := omega) [ixHd, ixA, hI, hne, hw]
        · have ih := ih (i + (o + 1) + 1) (f + 1) (by omega) (by omega) (by omega)
          push_cast at ih
          generalize hlp : XL T [0, 1, 5, 6, 7, 8, 9, 10] (.seq ixHd (.block 2 [0, 1, 5, 6, 7, 8, 9, 10] (.seq ixA ixT))) = lp at *
          have ht := fun e g0 g1 g5 g6 g7 g8 g9 g10 => ix_tail s hs (i + (o + 1)) f hlo (by omega) lp (by push_cast; exact ih) e g0 g1 g5 g6 g7 g8 g9 g10 hca
          unfold ixP at ht ⊢
          rw [hsk]
          simp (disch := omega) [ixHd, ixA, hI, hne, hw]
          refine ht _ ?_ ?_ ?_ ?_ ?_ ?_ ?_ ?_ <;> rfl
    · have hge : ¬ (i : Int) < (s.length : Int) - 1 := by omega
      unfold ixP
      rw [XL_eq, eIx, ixAt_end (by omega)]
      simp (disch := omega) [ixHd, hge]
end Go.Eng.S
namespace Go.Eng.S
open Go Go.Eng
set_option linter.unusedSectionVars false
variable [Sit]
set_option maxRecDepth 20000
theorem ix2_two {s : List UInt8} (h : s.length ≤ 2) (hn : s ≠ cb) : ix2 s = -1 := by
  match s, h with
  | [], _ => rfl
  | [_], _ => rfl
  | [a, b], _ =>
    have := idx2_next (s := [a, b]) (i := 0) (by simp)
    simp only [List.drop_zero, Nat.zero_add, List.drop_one, List.tail_cons, List.getElem_cons_zero, List.getElem_cons_succ] at this
    rw [this, if_neg (by rintro ⟨rfl, rfl⟩; exact hn rfl)]
    rfl
  | _ :: _ :: _ :: _, h => simp at h
theorem ix2_lt : ∀ s : List UInt8, 0 ≤ ix2 s → ix2 s + 2 ≤ s.length
  | [], h => by cases h
  | [a], h => by cases h
  | a :: b :: r, h => by
    have ih := ix2_lt (b :: r)
    have hn := idx2_next (s := a :: b :: r) (i := 0) (by simp)
    simp only [List.drop_zero, Nat.zero_add, List.drop_one, List.tail_cons] at hn
    rw [hn] at h ⊢
    simp only [List.length_cons] at ih ⊢
    split
    · omega
    · rename_i hc
      rw [if_neg hc] at h
      split
      · rename_i h2; rw [if_pos h2] at h; cases h
      · omega
set_option maxHeartbeats 1000000 in
theorem index2_ok (s : List UInt8) (hs : s.length < 100000000) (H : Heap) : C T 86 [.str s, .str cb] H = some (.int .i64 (ix2 s), H) := by
  refine anyH fd86 rfl rfl ?_ H
  rw [q86]
  by_cases he : s = cb
  · subst he
    have : ix2 cb = 0 := rfl
    rw [this]
    simp [d86]
  have hb : (cb == s) = false := by rw [beq_eq_false_iff_ne]; exact fun h => he h.symm
  have hbe : ¬ cb = s := fun h => he h.symm
  by_cases h2 : s.length ≤ 2
  · rw [ix2_two h2 he]
    simp (disch := omega) [d86, hb]
  have h3 : ¬ (s.length : Int) ≤ 2 := by omega
  have hlp : ∃ e', XL T [0, 1, 5, 6, 7, 8, 9, 10] L86_0 [(0, .str s), (1, .str cb), (5, .int .i64 2), (6, .int .u8 58), (7, .int .u8 32), (8, .int .i64 0), (9, .int .i64 ((s.length : Int) - 1)), (10, .int .i64 0)] [] = some (.ret, e', []) ∧ e'.get 4 = .int .i64 (ix2 s) ∨ XL T [0, 1, 5, 6, 7, 8, 9, 10] L86_0 [(0, .str s), (1, .str cb), (5, .int .i64 2), (6, .int .u8 58), (7, .int .u8 32), (8, .int .i64 0), (9, .int .i64 ((s.length : Int) - 1)), (10, .int .i64 0)] [] = some (.exit 1, e', []) ∧ ix2 s = -1 := by
    have := ix_loop s hs (by omega) s.length 0 0 (by omega) (by omega) (by omega)
    unfold ixP at this
    rw [ixAt_zero] at this
    exact this
  have hgl := gl0
  have e1 : (s.length : Int) - 2 + 1 = s.length - 1 := by omega
  obtain ⟨e', hx | hx⟩ := hlp
  · obtain ⟨x1, x2⟩ := hx
    by_cases hm : 2 ≤ Sit.maxLen
    · by_cases h64 : (s.length : Int) ≤ 64
      · have hix := ixs_ok s hs hm []
        simp (disch := omega) [d86, hb, h3, hgl, hm, h64, hix]
      · simp (disch := omega) [d86, hb, h3, hgl, hm, h64, e1, x1, x2]
    · simp (disch := omega) [d86, hb, h3, hgl, hm, e1, x1, x2]
  · obtain ⟨x1, x2⟩ := hx
    by_cases hm : 2 ≤ Sit.maxLen
    · by_cases h64 : (s.length : Int) ≤ 64
      · have hix := ixs_ok s hs hm []
        simp (disch := omega) [d86, hb, h3, hgl, hm, h64, hix]
      · simp (disch := omega) [d86, hb, h3, hgl, hm, h64, e1, x1, x2]
    · simp (disch := omega) [d86, hb, h3, hgl, hm, e1, x1, x2]
/-- Name and value of a line. -/
def cut2 (s : List UInt8) : List UInt8 × List UInt8 := if 0 ≤ ix2 s then (s.take (ix2 s).toNat, s.drop ((ix2 s).toNat + 2)) else (s, [])
theorem cutB_ok (s : List UInt8) (hs : s.length < 100000000) (H : Heap) : C T 71 [.str s, .str cb] H = some (.tup [.str (cut2 s).1, .str (cut2 s).2, .bool (decide (0 ≤ ix2 s))], H) := by
  refine anyH fd71 rfl rfl ?_ H
  rw [q71]
  have h := index2_ok s hs []
  have h1 := ix2_ge s
  have h2 := ix2_lt s
  have h3 := ix2_le s
  unfold cut2
  generalize ix2 s = z at *
  by_cases hz : 0 ≤ z
  · obtain ⟨n, rfl⟩ := Int.eq_ofNat_of_zero_le hz
    have h2 := h2 hz
    simp (disch := omega) [d71, h, hz]
  · simp (disch := omega) [d71, h, hz]
theorem cutC_ok (s : List UInt8) (hs : s.length < 100000000) (H : Heap) : C T 54 [.str s, .str cb] H = some (.tup [.str (cut2 s).1, .str (cut2 s).2, .bool (decide (0 ≤ ix2 s))], H) := by
  refine anyH fd54 rfl rfl ?_ H
  rw [q54]
  have h := cutB_ok s hs []
  simp [d54, h]
end Go.Eng.S
