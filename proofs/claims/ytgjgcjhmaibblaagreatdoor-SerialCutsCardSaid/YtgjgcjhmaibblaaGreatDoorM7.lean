/- Bytes in classes, digits, lower case. Decimal numbers: the code's and the reference's. No condition. -/
import Derived.Test.YtgjgcjhmaibblaaGreatDoorM6
namespace Go.Eng.S
open Go Go.Eng
set_option linter.unusedSectionVars false
variable [Sit]
set_option maxRecDepth 20000
theorem within_ok (c a b : UInt8) (H : Heap) : C T 41 [.int .u8 c.toNat, .int .u8 a.toNat, .int .u8 b.toNat] H = some (.bool (decide (a.toNat ≤ c.toNat) && decide (c.toNat ≤ b.toNat)), H) := by
  refine anyH fd41 rfl rfl ?_ H
  rw [q41]
  by_cases h1 : a.toNat ≤ c.toNat <;> simp [d41, h1]

theorem in_loop (c : UInt8) (s : List UInt8) (hs : s.length < LIM) : ∀ (k i : Nat), i + k = s.length →
    ∃ e', XL T [0, 1, 5] L83_0 [(0, .int .u8 c.toNat), (1, .str s), (5, .int .i64 i)] [] = some (if c ∈ s.drop i then .ret else .exit 0, e', []) ∧ (c ∈ s.drop i → e'.get 4 = .bool true)
  | 0, i, hk => by
    have hd : s.drop i = [] := List.drop_eq_nil_of_le (by omega)
    rw [XL_eq]
    simp [L83_0, hd, show ¬ i < s.length by omega]
  | k + 1, i, hk => by
    unfold LIM at hs
    have hlt : i < s.length := by omega
    have hd : s.drop i = s[i] :: s.drop (i + 1) := List.drop_eq_getElem_cons hlt
    have ih := in_loop c s (by unfold LIM; omega) k (i + 1) (by omega)
    push_cast at ih
    rw [hd, XL_eq]
    generalize XL T [0, 1, 5] L83_0 = lp at *
    generalize s.drop (i + 1) = R at *
    by_cases hc : s[i] = c
    · simp [L83_0, hlt, hc]
    · have hc' : ((s[i].toNat : Int) == (c.toNat : Int)) = false := by
        rw [beq_eq_false_iff_ne]; intro h; exact hc (UInt8.toNat_inj.1 (by omega))
      simp (disch := omega) [L83_0, hlt, hc', wr64, Ne.symm hc]
      simpa using ih

theorem in_ok (c : UInt8) (s : List UInt8) (hs : s.length < LIM) (H : Heap) : C T 83 [.int .u8 c.toNat, .str s] H = some (.bool (decide (c ∈ s)), H) := by
  refine anyH fd83 rfl rfl ?_ H
  rw [q83]
  obtain ⟨e', h1, h2⟩ := in_loop c s hs s.length 0 (by omega)
  simp only [List.drop_zero, Int.natCast_zero] at h1 h2
  by_cases hc : c ∈ s
  · simp only [hc, if_true] at h1
    simp [d83, h1, h2 hc, hc]
  · simp only [hc, if_false] at h1
    simp [d83, h1, hc]

abbrev lets : List UInt8 := [65, 66, 67, 68, 69, 70, 71, 72, 73, 74, 75, 76, 77, 78, 79, 80, 81, 82, 83, 84, 85, 86, 87, 88, 89, 90, 97, 98, 99, 100, 101, 102, 103, 104, 105, 106, 107, 108, 109, 110, 111, 112, 113, 114, 115, 116, 117, 118, 119, 120, 121, 122]
abbrev digs : List UInt8 := [48, 49, 50, 51, 52, 53, 54, 55, 56, 57]
/-- The reference's classes. -/
def clsB (k : Nat) (c : UInt8) : Bool := match k with
  | 0 => decide (c ∈ lets)
  | 1 => decide (c ∈ digs)
  | 2 => decide (c ∈ lets) || decide (c ∈ digs) || decide (c ∈ ([33, 35, 36, 37, 38, 39, 42, 43, 45, 46, 94, 95, 96, 124, 126] : List UInt8))
  | 3 => decide (c ∈ lets) || decide (c ∈ digs) || decide (c ∈ ([45, 46, 95, 126] : List UInt8))
  | 4 => decide (c ∈ lets) || decide (c ∈ digs) || decide (c ∈ ([45, 46, 95, 126, 33, 36, 38, 39, 40, 41, 42, 43, 44, 59, 61, 58, 64] : List UInt8))
  | _ => decide (c.toNat = 9) || (decide (32 ≤ c.toNat) && decide (c.toNat ≠ 127))
theorem letters_ok (H : Heap) : C T 84 [] H = some (.str lets, H) := anyH fd84 rfl rfl (C_of 9 (by kernel_rfl)) H
theorem class_ok (c : UInt8) (k : Nat) (hk : k ≤ 5) (H : Heap) : C T 67 [.int .u8 c.toNat, .int .i64 k] H = some (.bool (clsB k c), H) := by
  refine anyH fd67 rfl rfl ?_ H
  rw [q67]
  have h1 := in_ok c lets (by decide) []
  have h2 := in_ok c digs (by decide) []
  have h3 := letters_ok []
  have t2 := in_ok c [33, 35, 36, 37, 38, 39, 42, 43, 45, 46, 94, 95, 96, 124, 126] (by decide) []
  have t3 := in_ok c [45, 46, 95, 126] (by decide) []
  have t4 := in_ok c [45, 46, 95, 126, 33, 36, 38, 39, 40, 41, 42, 43, 44, 59, 61, 58, 64] (by decide) []
  have e : k = 0 ∨ k = 1 ∨ k = 2 ∨ k = 3 ∨ k = 4 ∨ k = 5 := by omega
  generalize g1 : decide (c ∈ lets) = b1 at h1
  generalize g2 : decide (c ∈ digs) = b2 at h2
  generalize g3 : decide (c ∈ ([33, 35, 36, 37, 38, 39, 42, 43, 45, 46, 94, 95, 96, 124, 126] : List UInt8)) = b3 at t2
  generalize g4 : decide (c ∈ ([45, 46, 95, 126] : List UInt8)) = b4 at t3
  generalize g5 : decide (c ∈ ([45, 46, 95, 126, 33, 36, 38, 39, 40, 41, 42, 43, 44, 59, 61, 58, 64] : List UInt8)) = b5 at t4
  rcases e with rfl | rfl | rfl | rfl | rfl | rfl
  · have hg : clsB 0 c = b1 := g1
    rw [hg]
    simp [d67, h1, h2, h3]
  · have hg : clsB 1 c = b2 := g2
    rw [hg]
    simp [d67, h1, h2, h3]
  · have hg : clsB 2 c = (b1 || b2 || b3) := by rw [← g1, ← g2, ← g3]; rfl
    rw [hg]
    clear g1 g2 g3 g4 g5
    cases b1 <;> cases b2 <;> simp [d67, h1, h2, h3, t2]
  · have hg : clsB 3 c = (b1 || b2 || b4) := by rw [← g1, ← g2, ← g4]; rfl
    rw [hg]
    clear g1 g2 g3 g4 g5
    cases b1 <;> cases b2 <;> simp [d67, h1, h2, h3, t3]
  · have hg : clsB 4 c = (b1 || b2 || b5) := by rw [← g1, ← g2, ← g5]; rfl
    rw [hg]
    clear g1 g2 g3 g4 g5
    cases b1 <;> cases b2 <;> simp [d67, h1, h2, h3, t4]
  · have hg : clsB 5 c = (decide (c.toNat = 9) || (decide (32 ≤ c.toNat) && decide (c.toNat ≠ 127))) := rfl
    rw [hg]
    clear g1 g2 g3 g4 g5 t2 t3 t4 hg
    by_cases i1 : c = 9
    · subst i1
      simp at h1 h2
      simp [d67, h1, h2, h3]
    by_cases i3 : c = 127
    · subst i3
      simp at h1 h2
      simp [d67, h1, h2, h3]
    have j1 : ¬ c.toNat = 9 := fun h => i1 (UInt8.toNat_inj.1 h)
    have j3 : ¬ c.toNat = 127 := fun h => i3 (UInt8.toNat_inj.1 h)
    have k1 : ((c.toNat : Int) == 9) = false := by rw [beq_eq_false_iff_ne]; omega
    have k3 : ((c.toNat : Int) != 127) = true := by rw [bne_iff_ne]; omega
    by_cases i2 : 32 ≤ c.toNat
    · have k2 : (32 : Int) ≤ c.toNat := by omega
      simp [d67, h1, h2, h3, j1, j3, k1, k2, k3, i2]
    · have k2 : ¬ (32 : Int) ≤ c.toNat := by omega
      simp [d67, h1, h2, h3, j1, j3, k1, k2, i2]

/-- The value of a hexadecimal digit, or -1. -/
def hexI (n : Nat) : Int := if 48 ≤ n ∧ n ≤ 57 then (n : Int) - 48 else if 97 ≤ n ∧ n ≤ 102 then (n : Int) - 87 else if 65 ≤ n ∧ n ≤ 70 then (n : Int) - 55 else -1
theorem hexI_lt (n : Nat) : hexI n < 16 ∧ -1 ≤ hexI n := by unfold hexI; repeat' split <;> omega
def isDg (n : Nat) : Bool := decide (48 ≤ n) && decide (n ≤ 57)
theorem digit_ok (c : UInt8) (H : Heap) : C T 64 [.int .u8 c.toNat] H = some (.bool (isDg c.toNat), H) := by
  refine anyH fd64 rfl rfl ?_ H
  rw [q64]
  have h := within_ok c 48 57 []
  have h' : C T 41 [.int .u8 c.toNat, .int .u8 48, .int .u8 57] [] = some (.bool (isDg c.toNat), []) := h
  simp [d64, h']
/-- The reference's search for a digit. -/
def hexF (D U : List UInt8) (c : UInt8) : Nat → Nat → Int
  | 0, _ => -1
  | k + 1, i => if D[i]? = some c ∨ U[i]? = some c then i else hexF D U c k (i + 1)
abbrev hexL : List UInt8 := [48, 49, 50, 51, 52, 53, 54, 55, 56, 57, 97, 98, 99, 100, 101, 102]
abbrev hexU : List UInt8 := [48, 49, 50, 51, 52, 53, 54, 55, 56, 57, 65, 66, 67, 68, 69, 70]
theorem hexF_eq (c : UInt8) : hexF hexL hexU c 16 0 = hexI c.toNat := by
  have := all256 (p := fun n => decide (hexF hexL hexU (UInt8.ofNat n) 16 0 = hexI n)) (by decide +kernel) c
  simpa using this
theorem rhex_loop (D U : List UInt8) (hD : D.length = 16) (hU : U.length = 16) (c : UInt8) : ∀ (k i : Nat), i + k = 16 →
    ∃ e', XL T [0, 3, 4, 5] L82_0 [(0, .int .u8 c.toNat), (3, .str D), (4, .str U), (5, .int .i64 i)] [] =
      some (if hexF D U c k i < 0 then .exit 0 else .ret, e', []) ∧ (0 ≤ hexF D U c k i → e'.get 2 = .int .i64 (hexF D U c k i))
  | 0, i, hk => by
    rw [XL_eq]
    simp [L82_0, hexF, show ¬ (i : Int) < 16 by omega]
  | k + 1, i, hk => by
    have hlt : i < D.length := by omega
    have hlt2 : i < U.length := by omega
    have hlt3 : (i : Int) < 16 := by omega
    have ih := rhex_loop D U hD hU c k (i + 1) (by omega)
    push_cast at ih
    rw [XL_eq, hexF, List.getElem?_eq_getElem hlt, List.getElem?_eq_getElem hlt2]
    generalize XL T [0, 3, 4, 5] L82_0 = lp at *
    generalize hexF D U c k (i + 1) = R at *
    by_cases h1 : D[i] = c
    · simp (disch := omega) [L82_0, hlt3, h1]
    by_cases h2 : U[i] = c
    · simp (disch := omega) [L82_0, hlt3, u8_beq, h1, h2]
    · simp (disch := omega) [L82_0, hlt3, u8_beq, h1, h2, wr64]
      exact ih
theorem rhex_ok (c : UInt8) (H : Heap) : C T 82 [.int .u8 c.toNat] H = some (.int .i64 (hexI c.toNat), H) := by
  refine anyH fd82 rfl rfl ?_ H
  rw [q82]
  obtain ⟨e', h1, h2⟩ := rhex_loop hexL hexU rfl rfl c 16 0 rfl
  rw [hexF_eq] at h1 h2
  simp only [Int.natCast_zero] at h1
  have h3 := hexI_lt c.toNat
  generalize hexI c.toNat = x at *
  by_cases hx : x < 0
  · have : x = -1 := by omega
    subst this
    simp [d82, h1]
  · have h2' := h2 (by omega)
    rw [if_neg hx] at h1
    simp [d82, h1, h2']

def low (c : UInt8) : UInt8 := if 65 ≤ c.toNat ∧ c.toNat ≤ 90 then c + 32 else c
theorem rlower_loop (s : List UInt8) (hs : s.length < 1000000000) : ∀ (k i : Nat), i + k = s.length →
    ∃ e', XL T [0, 3, 4] L65_0 [(0, .str s), (3, outV ((s.take i).map low)), (4, .int .i64 i)] (outH ((s.take i).map low)) = some (.exit 0, e', outH (s.map low)) ∧ e'.get 3 = outV (s.map low)
  | 0, i, hk => by
    have hd : s.take i = s := List.take_of_length_le (by omega)
    rw [hd, XL_eq]
    simp [L65_0, show ¬ i < s.length by omega]
  | k + 1, i, hk => by
    have hlt : i < s.length := by omega
    have ht : (s.take (i + 1)).map low = (s.take i).map low ++ [low s[i]] := by
      rw [List.take_succ_eq_append_getElem hlt, List.map_append]; rfl
    have ha := append_out ((s.take i).map low) (low s[i]) (by simp [LIM]; omega)
    rw [← ht] at ha
    have ih := rlower_loop s hs k (i + 1) (by omega)
    push_cast at ih
    rw [XL_eq]
    generalize XL T [0, 3, 4] L65_0 = lp at *
    generalize (s.take i).map low = A at *
    generalize (s.take (i + 1)).map low = B at *
    clear ht
    by_cases hc : 65 ≤ s[i].toNat ∧ s[i].toNat ≤ 90
    · have hl : IntKind.u8.wrap ((s[i].toNat : Int) + 32) = ((low s[i]).toNat : Int) := by
        rw [IntKind.wrap_u8, low, if_pos hc, UInt8.toNat_add]; simp
      have g1 : (65 : Int) ≤ (s[i].toNat : Int) := by omega
      have g2 : (s[i].toNat : Int) ≤ 90 := by omega
      simp (disch := omega) [L65_0, g1, g2, hl, ha, hlt, wr64]
      exact ih
    · have hl : low s[i] = s[i] := if_neg hc
      rw [hl] at ha
      by_cases h1 : 65 ≤ s[i].toNat
      · have h2 : ¬ s[i].toNat ≤ 90 := fun h => hc ⟨h1, h⟩
        have h1' : (65 : Int) ≤ (s[i].toNat : Int) := by omega
        have h2' : ¬ ((s[i].toNat : Int) ≤ 90) := by omega
        simp (disch := omega) [L65_0, h1', h2', ha, hlt, wr64]
        exact ih
      · have h1' : ¬ (65 : Int) ≤ (s[i].toNat : Int) := by omega
        simp (disch := omega) [L65_0, h1', ha, hlt, wr64]
        exact ih
theorem rlower_ok (s : List UInt8) (hs : s.length < 1000000000) (H : Heap) : C T 65 [.str s] H = some (.str (s.map low), H) := by
  refine anyH fd65 rfl rfl ?_ H
  rw [q65]
  obtain ⟨e', h1, h2⟩ := rlower_loop s hs s.length 0 (by omega)
  simp only [List.take_zero, List.map_nil, Int.natCast_zero, outV, outH] at h1
  generalize s.map low = A at h1 h2 ⊢
  have hv := view_out A
  have hne : ∀ l, outV A ≠ .str l := by intro l; cases A <;> simp [outV]
  rcases A with _ | ⟨a, A⟩
  · simp [outV] at h1 h2
    simp [d65, h1, h2, bytesOf]
  · simp only [outV] at h1 h2
    have hb := bytesOf_bcells (a :: A)
    have hg : hget [⟨bcells (a :: A), A.length, true, .no⟩] 0 0 (A.length + 1) A.length = some (bcells (a :: A)) := by
      have : (bcells (a :: A)).take (A.length + 1) = bcells (a :: A) := List.take_of_length_le (by simp [bcells])
      simp [hget, bcells_len, this]
    simp at h1 h2
    simp [d65, h1, h2, hg, hb]

theorem olower_loop (s : List UInt8) (hs : s.length < 1000000000) : ∀ (k i : Nat) (A : List UInt8), i + k = s.length → A = (s.take i).map low ++ s.drop i →
    ∃ e', XL T [3, 8, 9, 10] L78_0 [(3, .ms 0 0 s.length 1 0), (8, .ms 0 0 s.length 1 0), (9, .int .i64 s.length), (10, .int .i64 i)] [⟨bcells A, 0, true, .no⟩] = some (.exit 0, e', [⟨bcells (s.map low), 0, true, .no⟩]) ∧ e'.get 3 = .ms 0 0 s.length 1 0
  | 0, i, A, hk, hA => by
    have hd : A = s.map low := by rw [hA, List.take_of_length_le (by omega), List.drop_eq_nil_of_le (by omega), List.append_nil]
    rw [hd, XL_eq]
    simp [L78_0, show ¬ i < s.length by omega]
  | k + 1, i, A, hk, hA => by
    have hlt : i < s.length := by omega
    have hlA : A.length = s.length := by rw [hA]; simp; omega
    have hltA : i < A.length := by omega
    have hAi : A[i] = s[i] := by
      subst hA
      rw [List.getElem_append_right (by simp; omega)]
      simp [show min i s.length = i by omega]
    have ht : (s.take (i + 1)).map low ++ s.drop (i + 1) = A.set i (low s[i]) := by
      have hL : ((s.take i).map low).length = i := by simp; omega
      rw [hA, List.drop_eq_getElem_cons hlt, List.set_append_right _ _ (by omega), hL, Nat.sub_self, List.set_cons_zero, List.take_succ_eq_append_getElem hlt, List.map_append, List.append_assoc]; rfl
    have hg := hget_b A i 0 hltA
    have hst := hset_b A i 0 (low s[i]) hltA
    rw [hAi] at hg
    rw [← ht] at hst
    have hwi := within_ok s[i] 65 90 [⟨bcells A, 0, true, .no⟩]
    have ih := olower_loop s hs k (i + 1) _ (by omega) rfl
    rw [ht] at ih hst
    push_cast at ih
    rw [XL_eq]
    generalize XL T [3, 8, 9, 10] L78_0 = lp at *
    by_cases hc : 65 ≤ s[i].toNat ∧ s[i].toNat ≤ 90
    · have hl : IntKind.u8.wrap ((s[i].toNat : Int) + 32) = ((low s[i]).toNat : Int) := by
        rw [IntKind.wrap_u8, low, if_pos hc, UInt8.toNat_add]; simp
      simp [hc.1, hc.2] at hwi
      simp (disch := omega) [L78_0, hwi, hl, hg, hst, hlt, wr64]
      exact ih
    · have hl : low s[i] = s[i] := if_neg hc
      have hs' : A.set i (low s[i]) = A := by rw [hl, ← hAi]; simp
      rw [hs'] at ih
      have hcf : (decide ((65 : UInt8).toNat ≤ s[i].toNat) && decide (s[i].toNat ≤ (90 : UInt8).toNat)) = false := by
        rw [← Bool.not_eq_true]; simpa using hc
      rw [hcf] at hwi
      simp at hwi
      simp (disch := omega) [L78_0, hwi, hg, hlt, wr64]
      exact ih
theorem olower_ok (s : List UInt8) (hs : s.length < 1000000000) (H : Heap) : C T 78 [.str s] H = some (.str (s.map low), H) := by
  refine anyH fd78 rfl rfl ?_ H
  rw [q78]
  have hl : s.length ≤ LIM := by unfold LIM; omega
  obtain ⟨e', h1, h2⟩ := olower_loop s hs s.length 0 s (by omega) (by simp)
  have hh : hget [⟨bcells (s.map low), 0, true, .no⟩] 0 0 s.length 0 = some (bcells (s.map low)) := by
    have : List.take s.length (bcells (s.map low)) = bcells (s.map low) := List.take_of_length_le (by simp [bcells])
    simp [hget, bcells_len, this]
  simp only [Int.natCast_zero] at h1
  simp [d78, h1, h2, hl, hh, bytesOf_bcells]

end Go.Eng.S
namespace Go.Eng.S
open Go Go.Eng
set_option linter.unusedSectionVars false
variable [Sit]
set_option maxRecDepth 20000
/-- A fault with a status and an offset. -/
abbrev flt (s a : Int) : AV := .iface 124 (.agg [.int .i64 s, .int .i64 a])
theorem new_ok (s a : Int) (H : Heap) : C T 81 [.int .i64 s, .int .i64 a] H = some (flt s a, H) := anyH fd81 rfl rfl (C_of 9 (by kernel_rfl)) H

/-- The first byte that is no digit. -/
def firstBad (vb : UInt8 → Bool) : List UInt8 → Nat → Option Nat
  | [], _ => none
  | c :: r, i => if vb c = true then firstBad vb r (i + 1) else some i
/-- The number, if it is not too great. -/
def dv (b m : Int) (vv : UInt8 → Int) : List UInt8 → Int → Option Int
  | [], n => some n
  | c :: r, n => if m < n * b + vv c then none else dv b m vv r (n * b + vv c)
theorem dv_le {b m : Int} {vv : UInt8 → Int} : ∀ {l : List UInt8} {n x : Int}, n ≤ m → dv b m vv l n = some x → x ≤ m
  | [], n, x, h, e => by cases e; exact h
  | c :: r, n, x, h, e => by
    unfold dv at e
    split at e
    · cases e
    · exact dv_le (by omega) e
theorem dv_ge {b m : Int} {vv : UInt8 → Int} (hb : 0 ≤ b) (hv : ∀ c, 0 ≤ vv c) : ∀ {l : List UInt8} {n x : Int}, 0 ≤ n → dv b m vv l n = some x → 0 ≤ x
  | [], n, x, h, e => by cases e; exact h
  | c :: r, n, x, h, e => by
    unfold dv at e
    split at e
    · cases e
    · refine dv_ge hb hv ?_ e
      have := hv c
      have := Int.mul_nonneg h hb
      omega

theorem over_iff (n v b m : Int) (hn : 0 ≤ n) (hb : 2 ≤ b) (_hm : 0 ≤ m) (_hv : 0 ≤ v) : (n > (m - v).tdiv b ∨ v > m) ↔ m < n * b + v := by
  by_cases h : v ≤ m
  · rw [Int.tdiv_eq_ediv_of_nonneg (by omega)]
    constructor
    · rintro (h1 | h1)
      · have := Int.lt_mul_of_ediv_lt (by omega : 0 < b) h1
        omega
      · omega
    · intro h1
      exact .inl ((Int.ediv_lt_iff_lt_mul (by omega)).2 (by omega))
  · have := Int.mul_nonneg hn (by omega : 0 ≤ b)
    exact ⟨fun _ => by omega, fun _ => .inr (by omega)⟩
theorem tdiv_bd (m v b : Int) (hb : 2 ≤ b) (hm : 0 ≤ m) (hv : 0 ≤ v) (hv2 : v ≤ 255) : -255 ≤ (m - v).tdiv b ∧ (m - v).tdiv b ≤ m := by
  by_cases h : v ≤ m
  · rw [Int.tdiv_eq_ediv_of_nonneg (by omega)]
    have h1 := Int.ediv_le_self (a := m - v) b (by omega)
    have h2 := Int.ediv_nonneg (a := m - v) (b := b) (by omega) (by omega)
    omega
  · have e : m - v = -(v - m) := by omega
    rw [e, Int.neg_tdiv, Int.tdiv_eq_ediv_of_nonneg (by omega)]
    have h1 := Int.ediv_le_self (a := v - m) b (by omega)
    have h2 := Int.ediv_nonneg (a := v - m) (b := b) (by omega) (by omega)
    omega

/-- The code's numbers: what 'value' gives for each byte. -/
structure Dig (f : Nat) (b : Int) (vb : UInt8 → Bool) (vv : UInt8 → Int) : Prop where
  base : 2 ≤ b ∧ b ≤ 16
  call : ∀ c, ∃ x : Int, C T f [.int .u8 c.toNat] [] = some (.tup [.int .i64 x, .bool (vb c)], []) ∧ (vb c = true → x = vv c)
  lt : ∀ c, vb c = true → vv c < b
  ge : ∀ c, 0 ≤ vv c

def numPost (b m : Int) (vb : UInt8 → Bool) (vv : UInt8 → Int) (l : List UInt8) (i : Nat) (n : Int) (o : Bool) (r : XR) : Prop :=
  match firstBad vb l i with
  | some j => ∃ e', r = some (.ret, e', []) ∧ e'.get 8 = .int .i64 0 ∧ e'.get 9 = flt 400 j
  | none => ∃ e' n' o', r = some (.exit 0, e', []) ∧ e'.get 10 = .int .i64 n' ∧ e'.get 11 = .bool o' ∧ (if o = true then o' = true else match dv b m vv l n with
      | none => o' = true
      | some x => o' = false ∧ n' = x)
theorem num_loop {f : Nat} {b m : Int} {vb : UInt8 → Bool} {vv : UInt8 → Int} (hd : Dig f b vb vv) (hm0 : 0 ≤ m) (hm : m ≤ 4611686018427387904) (s : List UInt8) (hs : s.length < 1000000000) :
    ∀ (k i : Nat) (n : Int) (o : Bool), i + k = s.length → 0 ≤ n → n ≤ m →
      numPost b m vb vv (s.drop i) i n o (XL T [0, 1, 2, 3, 10, 11, 19, 20] L62_0 [(0, .str s), (1, .int .i64 b), (2, .int .i64 m), (3, .fn (.func f) [] []), (10, .int .i64 n), (11, .bool o), (19, .int .i64 s.length), (20, .int .i64 i)] [])
  | 0, i, n, o, hk, hn0, hn1 => by
    have hdr : s.drop i = [] := List.drop_eq_nil_of_le (by omega)
    rw [XL_eq, hdr]
    simp [L62_0, numPost, firstBad, dv, show ¬ i < s.length by omega]
  | k + 1, i, n, o, hk, hn0, hn1 => by
    have hlt : i < s.length := by omega
    have hdr : s.drop i = s[i] :: s.drop (i + 1) := List.drop_eq_getElem_cons hlt
    rw [hdr]
    obtain ⟨hb2, hb16⟩ := hd.base
    obtain ⟨x, hx, hxv⟩ := hd.call s[i]
    have hv0 := hd.ge s[i]
    have hvl := hd.lt s[i]
    have hnew := new_ok 400 i []
    have ih := num_loop hd hm0 hm s hs k (i + 1)
    push_cast at ih
    rw [XL_eq]
    generalize XL T [0, 1, 2, 3, 10, 11, 19, 20] L62_0 = lp at *
    generalize s.drop (i + 1) = R at *
    cases hvb : vb s[i] with
    | false =>
      rw [hvb] at hx
      unfold numPost firstBad
      simp (disch := omega) [L62_0, hx, hnew, hlt, hvb]
    | true =>
      rw [hvb] at hx
      obtain rfl := hxv hvb
      have hvl := hvl hvb
      have hnp : ∀ o, numPost b m vb vv (s[i] :: R) i n o = if o = true ∨ m < n * b + vv s[i] then numPost b m vb vv R (i + 1) n true else numPost b m vb vv R (i + 1) (n * b + vv s[i]) false := by
        intro o
        funext r
        unfold numPost
        rw [firstBad, if_pos hvb]
        cases o with
        | true => rfl
        | false =>
          by_cases hg : m < n * b + vv s[i]
          · rw [if_pos (.inr hg), dv, if_pos hg]; rfl
          · rw [if_neg (by simpa using hg), dv, if_neg hg]
      rw [hnp]
      clear hnp
      generalize vv s[i] = v at *
      have hov := over_iff n v b m hn0 hb2 hm0 hv0
      have htd := tdiv_bd m v b hb2 hm0 hv0 (by omega)
      have hb0 : b ≠ 0 := by omega
      cases o with
      | true =>
        have ih := ih n true (by omega) hn0 hn1
        rw [if_pos (.inl rfl)]
        simp (disch := omega) [L62_0, hx, hlt, wr64]
        exact ih
      | false =>
        by_cases hg : m < n * b + v
        · have ih := ih n true (by omega) hn0 hn1
          rw [if_pos (.inr hg)]
          by_cases h1 : n > (m - v).tdiv b
          · simp (disch := omega) [L62_0, hx, hlt, wr64, hb0, h1]
            exact ih
          · have h2 : v > m := (hov.2 hg).resolve_left h1
            simp (disch := omega) [L62_0, hx, hlt, wr64, hb0, h1, h2]
            exact ih
        · have h1 : ¬ n > (m - v).tdiv b := fun h => hg (hov.1 (.inl h))
          have h2 : ¬ v > m := fun h => hg (hov.1 (.inr h))
          have h3 := Int.mul_nonneg hn0 (by omega : 0 ≤ b)
          have ih := ih (n * b + v) false (by omega) (by omega) (by omega)
          rw [if_neg (by simpa using hg)]
          simp (disch := omega) [L62_0, hx, hlt, wr64, hb0, h1, h2]
          exact ih

def numR (b m : Int) (vb : UInt8 → Bool) (vv : UInt8 → Int) (s : List UInt8) : List AV := if s = [] then [.int .i64 0, flt 400 0] else match firstBad vb s 0 with
  | some j => [.int .i64 0, flt 400 j]
  | none => match dv b m vv s 0 with
    | none => [.int .i64 0, flt 413 0]
    | some n => [.int .i64 n, .cst .nilIface]
theorem number_ok {f : Nat} {b m : Int} {vb : UInt8 → Bool} {vv : UInt8 → Int} (hd : Dig f b vb vv) (hm0 : 0 ≤ m) (hm : m ≤ 4611686018427387904) (s : List UInt8) (hs : s.length < 1000000000) (H : Heap) :
    C T 62 [.str s, .int .i64 b, .int .i64 m, .fn (.func f) [] []] H = some (.tup (numR b m vb vv s), H) := by
  refine anyH fd62 rfl rfl ?_ H
  rw [q62]
  have e0 := new_ok 400 0 []
  have e1 := new_ok 413 0 []
  have hsf : ∀ (k : Nat) (H : Heap), snap (k + 1) H (.fn (.func f) [] []) = some (.fn (.func f) [] [], H) := fun _ _ => rfl
  by_cases hc : s = []
  · subst hc
    simp [d62, numR, e0, hsf]
  · have hl := num_loop hd hm0 hm s hs s.length 0 0 false (by omega) (by omega) hm0
    rw [List.drop_zero] at hl
    rw [numR, if_neg hc]
    have hce : s.isEmpty = false := by cases s <;> first | rfl | exact absurd rfl hc
    unfold numPost at hl
    simp only [Int.natCast_zero] at hl
    cases hfb : firstBad vb s 0 with
    | some j =>
      rw [hfb] at hl
      obtain ⟨e', g1, g2, g3⟩ := hl
      simp [d62, hce, g1, g2, g3, hsf]
    | none =>
      rw [hfb] at hl
      obtain ⟨e', n', o', g1, g2, g3, g4⟩ := hl
      simp only [Bool.false_eq_true, if_false] at g4
      cases hdv : dv b m vv s 0 with
      | none =>
        rw [hdv] at g4
        simp only at g4
        subst g4
        simp [d62, hce, g1, g2, g3, hsf, e1]
      | some x =>
        rw [hdv] at g4
        obtain ⟨rfl, rfl⟩ := g4
        simp [d62, hce, g1, g2, g3, hsf]
theorem numR_two (b m : Int) (vb : UInt8 → Bool) (vv : UInt8 → Int) (s : List UInt8) : ∃ n e, numR b m vb vv s = [.int .i64 n, e] ∧ (e = .cst .nilIface ∨ ∃ a c, e = flt a c) := by
  unfold numR
  split
  · exact ⟨_, _, rfl, .inr ⟨_, _, rfl⟩⟩
  · split
    · exact ⟨_, _, rfl, .inr ⟨_, _, rfl⟩⟩
    · split
      · exact ⟨_, _, rfl, .inr ⟨_, _, rfl⟩⟩
      · exact ⟨_, _, rfl, .inl rfl⟩

def dgI (c : UInt8) : Int := if isDg c.toNat = true then (c.toNat : Int) - 48 else 0
/-- The decimal number of a text. -/
def decR (m : Int) (s : List UInt8) : List AV := numR 10 m (fun c => isDg c.toNat) dgI s
theorem dgI_lt (c : UInt8) (h : isDg c.toNat = true) : dgI c < 10 := by unfold dgI; rw [if_pos h]; simp [isDg] at h; omega
theorem dgI_ge (c : UInt8) : 0 ≤ dgI c := by
  unfold dgI
  split
  · rename_i h; simp [isDg] at h; omega
  · exact Int.le_refl 0

theorem isDg_cls (c : UInt8) : clsB 1 c = isDg c.toNat := by
  have := all256 (p := fun n => clsB 1 (UInt8.ofNat n) == isDg n) (by decide +kernel) c
  simpa using this
structure RDig (b : Int) (vb : UInt8 → Bool) (vv : UInt8 → Int) : Prop where
  base : 2 ≤ b ∧ b ≤ 16
  call : ∀ c, C T 66 [.int .u8 c.toNat, .int .i64 b] [] = some (.int .i64 (if vb c = true then vv c else -1), [])
  lt : ∀ c, vb c = true → vv c < b
  ge : ∀ c, 0 ≤ vv c
theorem rdec : RDig 10 (fun c => isDg c.toNat) dgI where
  base := by decide
  call c := by
    rw [q66]
    have h1 := rhex_ok c []
    have h2 := class_ok c 1 (by decide) []
    rw [isDg_cls] at h2
    simp only [Int.cast_ofNat_Int] at h2
    unfold dgI
    cases hc : isDg c.toNat with
    | true =>
      rw [hc] at h2
      have hn : 48 ≤ c.toNat ∧ c.toNat ≤ 57 := by simpa [isDg] using hc
      have h3 : hexI c.toNat = (c.toNat : Int) - 48 := by unfold hexI; rw [if_pos hn]
      rw [h3] at h1
      have h4 : ¬ (10 ≤ (c.toNat : Int) - 48) := by omega
      simp [d66, h1, h2, h4]
    | false =>
      rw [hc] at h2
      generalize hexI c.toNat = x at h1
      by_cases h4 : 10 ≤ x <;> simp [d66, h1, h2, h4]
  lt := dgI_lt
  ge := dgI_ge
theorem rdig_loop {b : Int} {vb : UInt8 → Bool} {vv : UInt8 → Int} (hd : RDig b vb vv) (m : Int) (s : List UInt8) (hs : s.length < 1000000000) : ∀ (k i : Nat), i + k = s.length →
    ∃ e', XL T [0, 1, 2, 9] L47_1 [(0, .str s), (1, .int .i64 b), (2, .int .i64 m), (9, .int .i64 i)] [] = some (if firstBad vb (s.drop i) i = none then .exit 0 else .ret, e', []) ∧
      (firstBad vb (s.drop i) i = none → e'.get 0 = .str s ∧ e'.get 1 = .int .i64 b ∧ e'.get 2 = .int .i64 m) ∧
      ∀ j, firstBad vb (s.drop i) i = some j → e'.get 6 = .int .i64 0 ∧ e'.get 7 = .int .i64 400 ∧ e'.get 8 = .int .i64 j
  | 0, i, hk => by
    have hdr : s.drop i = [] := List.drop_eq_nil_of_le (by omega)
    rw [XL_eq, hdr]
    simp [L47_1, firstBad, show ¬ i < s.length by omega]
  | k + 1, i, hk => by
    have hlt : i < s.length := by omega
    have hdr : s.drop i = s[i] :: s.drop (i + 1) := List.drop_eq_getElem_cons hlt
    have hx := hd.call s[i]
    have hv0 := hd.ge s[i]
    have ih := rdig_loop hd m s hs k (i + 1) (by omega)
    push_cast at ih
    rw [hdr, XL_eq, firstBad]
    generalize XL T [0, 1, 2, 9] L47_1 = lp at *
    generalize s.drop (i + 1) = R at *
    cases hvb : vb s[i] with
    | false =>
      rw [hvb] at hx
      simp at hx
      simp (disch := omega) [L47_1, hlt, hx]
    | true =>
      rw [hvb] at hx
      simp at hx
      simp only [if_true]
      generalize firstBad vb R (i + 1) = FB at *
      have hn : ¬ vv s[i] < 0 := by omega
      simp (disch := omega) only [L47_1] 
      simp (disch := omega) [hlt, hx, wr64, hn]
      simpa using ih
def rnumPost (b m : Int) (vv : UInt8 → Int) (l : List UInt8) (n : Int) (r : XR) : Prop := match dv b m vv l n with
  | none => ∃ e', r = some (.ret, e', []) ∧ e'.get 6 = .int .i64 0 ∧ e'.get 7 = .int .i64 413 ∧ e'.get 8 = .int .i64 0
  | some x => ∃ e', r = some (.exit 2, e', []) ∧ e'.get 10 = .int .i64 x
theorem rnum_loop {b m : Int} {vb : UInt8 → Bool} {vv : UInt8 → Int} (hd : RDig b vb vv) (hm0 : 0 ≤ m) (hm : m ≤ 4611686018427387904) (s : List UInt8) (hs : s.length < 1000000000) (hall : ∀ c ∈ s, vb c = true) :
    ∀ (k i : Nat) (n : Int), i + k = s.length → 0 ≤ n → n ≤ m →
      rnumPost b m vv (s.drop i) n (XL T [0, 1, 2, 10, 11] L47_0 [(0, .str s), (1, .int .i64 b), (2, .int .i64 m), (10, .int .i64 n), (11, .int .i64 i)] [])
  | 0, i, n, hk, hn0, hn1 => by
    have hdr : s.drop i = [] := List.drop_eq_nil_of_le (by omega)
    rw [XL_eq, hdr]
    simp [L47_0, rnumPost, dv, show ¬ i < s.length by omega]
  | k + 1, i, n, hk, hn0, hn1 => by
    have hlt : i < s.length := by omega
    have hdr : s.drop i = s[i] :: s.drop (i + 1) := List.drop_eq_getElem_cons hlt
    have hvb := hall s[i] (List.getElem_mem hlt)
    have hx := hd.call s[i]
    have hv0 := hd.ge s[i]
    have hvl := hd.lt s[i] hvb
    rw [hvb] at hx
    simp at hx
    obtain ⟨hb2, hb16⟩ := hd.base
    have hb0 : b ≠ 0 := by omega
    have ih := rnum_loop hd hm0 hm s hs hall k (i + 1)
    push_cast at ih
    rw [hdr, XL_eq]
    generalize XL T [0, 1, 2, 10, 11] L47_0 = lp at *
    generalize s.drop (i + 1) = R at *
    have hnp : rnumPost b m vv (s[i] :: R) n = if m < n * b + vv s[i] then (fun r => ∃ e', r = some (.ret, e', []) ∧ e'.get 6 = .int .i64 0 ∧ e'.get 7 = .int .i64 413 ∧ e'.get 8 = .int .i64 0) else rnumPost b m vv R (n * b + vv s[i]) := by
      funext r
      unfold rnumPost
      rw [dv]
      by_cases h : m < n * b + vv s[i]
      · rw [if_pos h, if_pos h]
      · rw [if_neg h, if_neg h]
    rw [hnp]
    clear hnp
    generalize vv s[i] = v at *
    have hq := Int.ediv_le_self (a := m) b hm0
    have hq0 := Int.ediv_nonneg (a := m) (b := b) hm0 (by omega)
    have htd : m.tdiv b = m / b := Int.tdiv_eq_ediv_of_nonneg hm0
    have h3 := Int.mul_nonneg hn0 (by omega : 0 ≤ b)
    have hdm := Int.mul_ediv_add_emod m b
    by_cases h1 : m / b < n
    · have := Int.lt_mul_of_ediv_lt (by omega : 0 < b) h1
      rw [if_pos (by omega)]
      simp (disch := omega) [L47_0, hlt, htd, wr64, hb0, h1]
    · have h4 : n * b ≤ m := by
        have := (Int.le_ediv_iff_mul_le (by omega : 0 < b)).1 (show n ≤ m / b by omega)
        exact this
      by_cases h2 : m < n * b + v
      · rw [if_pos h2]
        simp (disch := omega) [L47_0, hlt, htd, wr64, hb0, h1, hx, h2]
      · rw [if_neg h2]
        have ih := ih (n * b + v) (by omega) (by omega) (by omega)
        simp (disch := omega) [L47_0, hlt, htd, wr64, hb0, h1, hx, h2]
        exact ih
theorem firstBad_none {vb : UInt8 → Bool} : ∀ {l : List UInt8} {i : Nat}, firstBad vb l i = none ↔ ∀ c ∈ l, vb c = true
  | [], _ => by simp [firstBad]
  | c :: r, i => by
    unfold firstBad
    cases h : vb c <;> simp [h, firstBad_none]
def rnumR (b m : Int) (vb : UInt8 → Bool) (vv : UInt8 → Int) (s : List UInt8) : List AV := if s = [] then [.int .i64 0, .int .i64 400, .int .i64 0] else match firstBad vb s 0 with
  | some j => [.int .i64 0, .int .i64 400, .int .i64 j]
  | none => match dv b m vv s 0 with
    | none => [.int .i64 0, .int .i64 413, .int .i64 0]
    | some n => [.int .i64 n, .int .i64 0, .int .i64 0]
theorem rparse_ok {b m : Int} {vb : UInt8 → Bool} {vv : UInt8 → Int} (hd : RDig b vb vv) (hm0 : 0 ≤ m) (hm : m ≤ 4611686018427387904) (s : List UInt8) (hs : s.length < 1000000000) (H : Heap) :
    C T 47 [.str s, .int .i64 b, .int .i64 m] H = some (.tup (rnumR b m vb vv s), H) := by
  refine anyH fd47 rfl rfl ?_ H
  rw [q47]
  by_cases hc : s = []
  · subst hc
    simp [d47, rnumR]
  · rw [rnumR, if_neg hc]
    have hce : s.length ≠ 0 := by simpa using hc
    have hce' : ((s.length : Int) == 0) = false := by rw [beq_eq_false_iff_ne]; omega
    obtain ⟨e', g1, g2, g3⟩ := rdig_loop hd m s hs s.length 0 (by omega)
    simp only [List.drop_zero, Int.natCast_zero] at g1 g2 g3
    cases hfb : firstBad vb s 0 with
    | some j =>
      obtain ⟨i1, i2, i3⟩ := g3 j hfb
      rw [hfb] at g1
      simp at g1
      simp [d47, hce', g1, i1, i2, i3]
    | none =>
      obtain ⟨i1, i2, i3⟩ := g2 hfb
      rw [hfb] at g1
      simp only [if_true] at g1
      have hr := rnum_loop hd hm0 hm s hs (firstBad_none.1 hfb) s.length 0 0 (by omega) (by omega) hm0
      rw [List.drop_zero] at hr
      unfold rnumPost at hr
      simp only [Int.natCast_zero] at hr
      cases hdv : dv b m vv s 0 with
      | none =>
        rw [hdv] at hr
        obtain ⟨e2, j1, j2, j3, j4⟩ := hr
        simp [d47, hce', g1, i1, i2, i3, j1, j2, j3, j4]
      | some x =>
        rw [hdv] at hr
        obtain ⟨e2, j1, j2⟩ := hr
        simp [d47, hce', g1, i1, i2, i3, j1, j2]
/-- A number, or none. -/
def decO (m : Int) (s : List UInt8) : Option Int := if s = [] then none else match firstBad (fun c => isDg c.toNat) s 0 with
  | some _ => none
  | none => dv 10 m dgI s 0
theorem decR_some {m : Int} {s : List UInt8} {n : Int} (h : decO m s = some n) : decR m s = [.int .i64 n, .cst .nilIface] := by
  unfold decO at h
  unfold decR numR
  split at h
  · cases h
  · rename_i hs
    rw [if_neg hs]
    split at h
    · cases h
    · rename_i hf
      try rw [hf]
      try simp only
      rw [h]
theorem decR_none {m : Int} {s : List UInt8} (h : decO m s = none) : ∃ a c : Int, decR m s = [.int .i64 0, flt a c] := by
  unfold decO at h
  unfold decR numR
  split at h
  · rename_i hs
    exact ⟨_, _, if_pos hs⟩
  · rename_i hs
    rw [if_neg hs]
    split at h
    · rename_i hf
      try rw [hf]
      exact ⟨_, _, rfl⟩
    · rename_i hf
      try rw [hf]
      try simp only
      rw [h]
      exact ⟨_, _, rfl⟩

theorem dec_dig : Dig 63 10 (fun c => isDg c.toNat) dgI where
  base := by decide
  call c := by
    have h0 := digit_ok c []
    have hc := c.toNat_lt
    refine ⟨(c.toNat : Int) - 48, ?_, fun h => by unfold dgI; rw [if_pos h]⟩
    rw [q63]
    simp (disch := omega) [d63, h0, wr64]
  lt c h := by unfold dgI; rw [if_pos h]; simp [isDg] at h; omega
  ge c := by
    unfold dgI
    split
    · rename_i h; simp [isDg] at h; omega
    · exact Int.le_refl 0
theorem dparse_ok (s : List UInt8) (hs : s.length < 1000000000) (m : Int) (hm0 : 0 ≤ m) (hm : m ≤ 4611686018427387904) (H : Heap) : C T 44 [.str s, .int .i64 m] H = some (.tup (decR m s), H) := by
  refine anyH fd44 rfl rfl ?_ H
  rw [q44]
  have h1 := number_ok dec_dig hm0 hm s hs []
  unfold decR
  obtain ⟨n, e, h2, h3⟩ := numR_two 10 m (fun c => isDg c.toNat) dgI s
  rw [h2] at h1 ⊢
  rcases h3 with rfl | ⟨a, b, rfl⟩ <;> simp [d44, h1]

end Go.Eng.S
